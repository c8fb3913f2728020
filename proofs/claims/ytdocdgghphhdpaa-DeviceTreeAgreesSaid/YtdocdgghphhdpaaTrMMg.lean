/- The plain model of the device tree: what Set does, and what stands after each call. -/
import Derived.Test.YtdocdgghphhdpaaRlM
import Derived.Test.YtdocdgghphhdpaaMgDeviceTree3
namespace Go.Proofs.Ytdocdgghphhdpaa
open Go.RowKit

structure TC where
  nd : Nat
  par : Nat → Int
  rl : Nat → Nat → List Int
  n : Nat
  R : Nat → RailD
  ch : Nat → List Nat
structure TSt where
  st : Nat → Nat
  r : RSt
  clk : Nat
/-- The devices and rails are valid. -/
structure TOk (C : TC) : Prop where
  nd64 : C.nd ≤ 64
  n64 : C.n ≤ 64
  par : ∀ i, i < C.nd → -1 ≤ C.par i ∧ C.par i < (i : Int)
  asc : ∀ i q, ascB (needL (C.rl i) q) = true
  len : ∀ i q, (C.rl i q).length ≤ 64
  rail : ∀ i q, i < C.nd → ∀ v ∈ needL (C.rl i) q, 0 ≤ v ∧ v < (C.n : Int)
  ch : ∀ k, k < C.n → Chn C.n C.R k (C.ch k) ∧ (C.ch k).length ≤ 64
/-- How many devices need rail j. -/
def useN (C : TC) (st : Nat → Nat) (j : Nat) : Nat → Nat
  | 0 => 0
  | i + 1 => useN C st j i + (if (j : Int) ∈ needL (C.rl i) (st i) then 1 else 0)
def useF (C : TC) (st : Nat → Nat) : Nat → Nat := fun j => useN C st j C.nd
def acqF (C : TC) (now : Nat) : List Int → RSt → RSt × List ROp
  | [], s => (s, [])
  | v :: l, s => ((acqF C now l (addC C.R now v.toNat (C.ch v.toNat) { s with clk := now }).1).1, (addC C.R now v.toNat (C.ch v.toNat) { s with clk := now }).2 ++ (acqF C now l (addC C.R now v.toNat (C.ch v.toNat) { s with clk := now }).1).2)
def relF (C : TC) (now : Nat) : List Int → RSt → RSt × List ROp
  | [], s => (s, [])
  | v :: l, s => ((relF C now l (remC C.n C.R now v.toNat (C.ch v.toNat) { s with clk := now }).1).1, (remC C.n C.R now v.toNat (C.ch v.toNat) { s with clk := now }).2 ++ (relF C now l (remC C.n C.R now v.toNat (C.ch v.toNat) { s with clk := now }).1).2)
def acqs (C : TC) (s : TSt) (d k : Nat) : List Int := diffM (needL (C.rl d) k) (needL (C.rl d) (s.st d))
def rels (C : TC) (s : TSt) (d k : Nat) : List Int := (diffM (needL (C.rl d) (s.st d)) (needL (C.rl d) k)).reverse
def setOk (C : TC) (now d k : Nat) (s : TSt) : TSt × List ROp :=
  (⟨rup s.st d k, (relF C now (rels C s d k) (acqF C now (acqs C s d k) s.r).1).1, now⟩, (acqF C now (acqs C s d k) s.r).2 ++ (relF C now (rels C s d k) (acqF C now (acqs C s d k) s.r).1).2)
/-- Set refuses: a parent is deeper, or a child is shallower. -/
def Blocked (C : TC) (s : TSt) (d k : Nat) : Prop := (0 ≤ C.par d ∧ k < s.st (C.par d).toNat) ∨ ∃ i, i < C.nd ∧ C.par i = (d : Int) ∧ s.st i < k
instance (C : TC) (s : TSt) (d k : Nat) : Decidable (Blocked C s d k) := by unfold Blocked; infer_instance
def MaxT : Nat := 1152921504606846976
def setM (C : TC) (now : Nat) (d k : Int) (s : TSt) : TSt × List ROp × Int :=
  if ¬ (0 ≤ d ∧ d < (C.nd : Int)) ∨ ¬ (0 ≤ k ∧ k ≤ 4) ∨ now < s.clk ∨ MaxT < now then (s, [], 1)
  else if Blocked C s d.toNat k.toNat then (s, [], 9)
  else ((setOk C now d.toNat k.toNat s).1, (setOk C now d.toNat k.toNat s).2, 0)
/-- What stands between the calls. -/
structure TInv (C : TC) (s : TSt) : Prop where
  own : Own C.n C.R s.r (useF C s.st)
  clk : s.r.clk ≤ s.clk
  st4 : ∀ i, s.st i ≤ 4
  hier : ∀ i p : Nat, i < C.nd → C.par i = (p : Int) → s.st p ≤ s.st i
section
variable {C : TC} {s : TSt} {r : RSt} {now d k : Nat} {f : Nat → Nat}
theorem RSt.wclk' {n : Nat} {R : Nat → RailD} {s : RSt} {f : Nat → Nat} (h : Own n R s f) (c : Nat) : Own n R { s with clk := c } f := fun j hj => by
  have h1 := h j hj
  have h2 := heldN_congr (R := R) (s := s) (s' := { s with clk := c }) (j := j) (fun i _ => Iff.rfl) n
  rw [← h2]
  exact h1
theorem Own.congr {n : Nat} {R : Nat → RailD} {s : RSt} {f g : Nat → Nat} (h : Own n R s f) (e : ∀ j, j < n → f j = g j) : Own n R s g := fun j hj => by rw [h j hj, e j hj]
theorem Own.le {n : Nat} {R : Nat → RailD} {s : RSt} {f : Nat → Nat} {B : Nat} (h : Own n R s f) (hf : ∀ j, j < n → f j ≤ B) : ∀ j, j < n → s.cnt j ≤ n + B := fun j hj => by
  have h1 := h j hj
  have h2 : ∀ i, heldN R s j i ≤ i := fun i => by
    induction i with
    | zero => exact Nat.le_refl _
    | succ i ih => rw [heldN]; split <;> omega
  have := h2 n
  have := hf j hj
  omega
theorem useN_le (C : TC) (st : Nat → Nat) (j : Nat) : ∀ i, useN C st j i ≤ i
  | 0 => Nat.le_refl _
  | i + 1 => by
    have := useN_le C st j i
    rw [useN]
    split <;> omega
theorem useF_le (C : TC) (st : Nat → Nat) (j : Nat) : useF C st j ≤ C.nd := useN_le C st j C.nd
theorem useN_far {st : Nat → Nat} {j : Nat} : ∀ i, i ≤ d → useN C (rup st d k) j i = useN C st j i
  | 0, _ => rfl
  | i + 1, h => by
    rw [useN, useN, useN_far i (by omega), rup_other (by omega)]
theorem useN_turn {st : Nat → Nat} {j : Nat} : ∀ i, d < i → useN C (rup st d k) j i + (if (j : Int) ∈ needL (C.rl d) (st d) then 1 else 0) = useN C st j i + (if (j : Int) ∈ needL (C.rl d) k then 1 else 0)
  | 0, h => by omega
  | i + 1, h => by
    rw [useN, useN]
    by_cases e : i = d
    · subst e
      rw [useN_far i (Nat.le_refl _), rup_same]
      omega
    · rw [rup_other e]
      have := useN_turn (st := st) (j := j) i (by omega)
      omega
theorem useN_pos {st : Nat → Nat} {j : Nat} (h : (j : Int) ∈ needL (C.rl d) (st d)) : ∀ i, d < i → 1 ≤ useN C st j i
  | 0, hd => by omega
  | i + 1, hd => by
    rw [useN]
    by_cases e : i = d
    · subst e
      rw [if_pos h]
      omega
    · have := useN_pos h i (by omega)
      omega
theorem acq_own (hC : ∀ k, k < C.n → Chn C.n C.R k (C.ch k) ∧ (C.ch k).length ≤ 64) : ∀ {l : List Int} {r : RSt} {f : Nat → Nat}, (∀ v ∈ l, 0 ≤ v ∧ v < (C.n : Int)) → l.Nodup → Own C.n C.R r f → Own C.n C.R (acqF C now l r).1 (fun j => f j + if (j : Int) ∈ l then 1 else 0)
  | [], r, f, _, _, h => h.congr (fun j _ => by simp)
  | v :: l, r, f, hv, hn, h => by
    have h0 := hv v (List.mem_cons_self ..)
    obtain ⟨q, rfl⟩ := Int.eq_ofNat_of_zero_le h0.1
    have hq : q < C.n := by omega
    rw [List.nodup_cons] at hn
    have h1 := add_own (now := now) (hC q hq).1 (RSt.wclk' h now)
    have h2 := acq_own hC (l := l) (fun v hm => hv v (List.mem_cons_of_mem _ hm)) hn.2 h1
    rw [acqF, Int.toNat_natCast]
    refine h2.congr (fun j _ => ?_)
    by_cases e : j = q
    · subst e
      rw [if_pos rfl, if_neg hn.1, if_pos (List.mem_cons_self ..)]
    · have hm : ((j : Int) ∈ (q : Int) :: l) ↔ (j : Int) ∈ l := by
        rw [List.mem_cons]
        constructor
        · rintro (h | h)
          · omega
          · exact h
        · exact Or.inr
      rw [if_neg e]
      simp only [hm]
      omega
theorem rel_own (hC : ∀ k, k < C.n → Chn C.n C.R k (C.ch k) ∧ (C.ch k).length ≤ 64) : ∀ {l : List Int} {r : RSt} {f : Nat → Nat}, (∀ v ∈ l, 0 ≤ v ∧ v < (C.n : Int) ∧ 1 ≤ f v.toNat) → l.Nodup → Own C.n C.R r f → Own C.n C.R (relF C now l r).1 (fun j => f j - if (j : Int) ∈ l then 1 else 0)
  | [], r, f, _, _, h => h.congr (fun j _ => by simp)
  | v :: l, r, f, hv, hn, h => by
    have h0 := hv v (List.mem_cons_self ..)
    obtain ⟨q, rfl⟩ := Int.eq_ofNat_of_zero_le h0.1
    have hq : q < C.n := by omega
    rw [List.nodup_cons] at hn
    have h1 := rem_own (now := now) (hC q hq).1 (RSt.wclk' h now) (by simpa using h0.2.2)
    have h2 := rel_own hC (l := l) (f := fun j => f j - if j = q then 1 else 0) (fun v hm => by
      have := hv v (List.mem_cons_of_mem _ hm)
      refine ⟨this.1, this.2.1, ?_⟩
      have hne : v.toNat ≠ q := fun e => hn.1 (by
        have : v = (q : Int) := by omega
        rw [← this]; exact hm)
      simp only [if_neg hne]
      omega) hn.2 h1
    rw [relF, Int.toNat_natCast]
    refine h2.congr (fun j _ => ?_)
    by_cases e : j = q
    · subst e
      rw [if_pos rfl, if_neg hn.1, if_pos (List.mem_cons_self ..)]
      omega
    · have hm : ((j : Int) ∈ (q : Int) :: l) ↔ (j : Int) ∈ l := by
        rw [List.mem_cons]
        constructor
        · rintro (h | h)
          · omega
          · exact h
        · exact Or.inr
      rw [if_neg e]
      simp only [hm]
      omega
theorem asc_nodup {l : List Int} (h : ascB l = true) : l.Nodup := (asc_of h).imp (fun h => by omega)
theorem diff_nodup {l u : List Int} (h : l.Nodup) : (diffM l u).Nodup := h.filter _
theorem diff_mem {l u : List Int} {v : Int} : v ∈ diffM l u ↔ v ∈ l ∧ v ∉ u := by simp [diffM]
theorem acqs_ok (hC : TOk C) (hd : d < C.nd) : (∀ v ∈ acqs C s d k, 0 ≤ v ∧ v < (C.n : Int)) ∧ (acqs C s d k).Nodup :=
  ⟨fun v hv => hC.rail d _ hd v (diff_mem.1 hv).1, diff_nodup (asc_nodup (hC.asc d _))⟩
theorem rels_ok (hC : TOk C) (hd : d < C.nd) : (∀ v ∈ rels C s d k, 0 ≤ v ∧ v < (C.n : Int) ∧ 1 ≤ useF C s.st v.toNat) ∧ (rels C s d k).Nodup := by
  refine ⟨fun v hv => ?_, (List.reverse_perm _).nodup_iff.2 (diff_nodup (asc_nodup (hC.asc d _)))⟩
  have hm := (diff_mem.1 (List.mem_reverse.1 hv)).1
  have hb := hC.rail d _ hd v hm
  refine ⟨hb.1, hb.2, useN_pos (d := d) ?_ C.nd hd⟩
  rw [Int.toNat_of_nonneg hb.1]
  exact hm
/-- The rails' counts match the states after Set. -/
theorem set_own (hC : TOk C) (hd : d < C.nd) (h : Own C.n C.R s.r (useF C s.st)) : Own C.n C.R (setOk C now d k s).1.r (useF C (setOk C now d k s).1.st) := by
  obtain ⟨a1, a2⟩ := acqs_ok (s := s) (k := k) hC hd
  obtain ⟨b1, b2⟩ := rels_ok (s := s) (k := k) hC hd
  have h1 := acq_own (now := now) hC.ch a1 a2 h
  have h2 := rel_own (now := now) hC.ch (l := rels C s d k) (fun v hv => ⟨(b1 v hv).1, (b1 v hv).2.1, by have := (b1 v hv).2.2; omega⟩) b2 h1
  refine h2.congr (fun j hj => ?_)
  have ht := useN_turn (C := C) (d := d) (k := k) (st := s.st) (j := j) C.nd hd
  show _ = useN C (rup s.st d k) j C.nd
  have ea : ((j : Int) ∈ acqs C s d k) ↔ ((j : Int) ∈ needL (C.rl d) k ∧ (j : Int) ∉ needL (C.rl d) (s.st d)) := diff_mem
  have eb : ((j : Int) ∈ rels C s d k) ↔ ((j : Int) ∈ needL (C.rl d) (s.st d) ∧ (j : Int) ∉ needL (C.rl d) k) := List.mem_reverse.trans diff_mem
  have hp := fun hm => useN_pos (C := C) (d := d) (st := s.st) (j := j) hm C.nd hd
  have hu : useF C s.st j = useN C s.st j C.nd := rfl
  by_cases x : (j : Int) ∈ needL (C.rl d) k <;> by_cases y : (j : Int) ∈ needL (C.rl d) (s.st d)
  · simp only [ea, eb, x, y, not_true, and_false, if_false, if_true] at ht ⊢
    omega
  · simp only [ea, eb, x, y, not_false_eq_true, not_true, and_true, and_false, if_false, if_true] at ht ⊢
    omega
  · have := hp y
    simp only [ea, eb, x, y, not_false_eq_true, not_true, and_true, and_false, if_false, if_true] at ht ⊢
    omega
  · simp only [ea, eb, x, y, not_false_eq_true, false_and, if_false] at ht ⊢
    omega
theorem acq_clk : ∀ {l : List Int} {r : RSt}, (acqF C now l r).1.clk = r.clk ∨ (acqF C now l r).1.clk = now
  | [], _ => .inl rfl
  | v :: l, r => by
    rw [acqF]
    rcases acq_clk (l := l) (r := (addC C.R now v.toNat (C.ch v.toNat) { r with clk := now }).1) with h | h
    · rw [add_clk] at h
      exact .inr h
    · exact .inr h
theorem rel_clk : ∀ {l : List Int} {r : RSt}, (relF C now l r).1.clk = r.clk ∨ (relF C now l r).1.clk = now
  | [], _ => .inl rfl
  | v :: l, r => by
    rw [relF]
    rcases rel_clk (l := l) (r := (remC C.n C.R now v.toNat (C.ch v.toNat) { r with clk := now }).1) with h | h
    · rw [rem_clk] at h
      exact .inr h
    · exact .inr h
theorem set_inv (hC : TOk C) (h : TInv C s) (hd : d < C.nd) (hk : k ≤ 4) (hn : s.clk ≤ now) (hb : ¬ Blocked C s d k) : TInv C (setOk C now d k s).1 := by
  refine ⟨set_own hC hd h.own, ?_, fun i => ?_, fun i p hi hp => ?_⟩
  · show (relF C now (rels C s d k) (acqF C now (acqs C s d k) s.r).1).1.clk ≤ now
    have h0 := h.clk
    rcases rel_clk (C := C) (now := now) (l := rels C s d k) (r := (acqF C now (acqs C s d k) s.r).1) with h1 | h1
    · rcases acq_clk (C := C) (now := now) (l := acqs C s d k) (r := s.r) with h2 | h2
      · omega
      · omega
    · omega
  · show rup s.st d k i ≤ 4
    by_cases e : i = d
    · subst e; rw [rup_same]; exact hk
    · rw [rup_other e]; exact h.st4 i
  · show rup s.st d k p ≤ rup s.st d k i
    have hp2 := hC.par i hi
    have hpi : p ≠ i := by omega
    by_cases e : i = d
    · subst e
      rw [rup_same, rup_other hpi]
      refine Nat.le_of_not_lt (fun hlt => hb (.inl ⟨by omega, ?_⟩))
      rw [hp, Int.toNat_natCast]
      exact hlt
    · rw [rup_other e]
      by_cases e2 : p = d
      · subst e2
        rw [rup_same]
        exact Nat.le_of_not_lt (fun hlt => hb (.inr ⟨i, hi, hp, hlt⟩))
      · rw [rup_other e2]
        exact h.hier i p hi hp
theorem setM_inv (hC : TOk C) (h : TInv C s) (d k : Int) : TInv C (setM C now d k s).1 := by
  unfold setM
  split
  · exact h
  · rename_i h1
    split
    · exact h
    · rename_i h2
      simp only [not_or, Decidable.not_not, Nat.not_lt] at h1
      exact set_inv hC h (by omega) (by omega) h1.2.2.1 h2
end
end Go.Proofs.Ytdocdgghphhdpaa

