/- The plain model of rails: acquire and release along the chain of supplies, and what the counts mean. -/
import Derived.Test.YtdocdgghphhdpaaBase
namespace Go.Proofs.Ytdocdgghphhdpaa
open Go.RowKit

structure RailD where
  sup : Int
  up : Nat
  dn : Nat
structure RSt where
  cnt : Nat → Nat
  dn : Nat → Nat
  clk : Nat
structure ROp where
  rail : Nat
  on : Bool
  st : Nat
  dn : Nat
deriving DecidableEq
def rup {α : Type} (f : Nat → α) (j : Nat) (v : α) : Nat → α := fun q => if q = j then v else f q
theorem rup_same {α : Type} {f : Nat → α} {j : Nat} {v : α} : rup f j v j = v := if_pos rfl
theorem rup_other {α : Type} {f : Nat → α} {j q : Nat} {v : α} (h : q ≠ j) : rup f j v q = f q := if_neg h
def W64 : Nat := 18446744073709551616
/-- The supplies behind rail k. -/
inductive Chn (n : Nat) (R : Nat → RailD) : Nat → List Nat → Prop
  | root {k : Nat} : k < n → (R k).sup < 0 → Chn n R k []
  | next {k q : Nat} {L : List Nat} : k < n → (R k).sup = (q : Int) → Chn n R q L → k ∉ q :: L → Chn n R k (q :: L)
theorem Chn.lt {n : Nat} {R : Nat → RailD} {k : Nat} {L : List Nat} (h : Chn n R k L) : k < n := by cases h <;> assumption
def incR (k : Nat) (s : RSt) : RSt := { s with cnt := rup s.cnt k (s.cnt k + 1) }
def addFin (R : Nat → RailD) (k st : Nat) (s : RSt) (ops : List ROp) : RSt × List ROp :=
  (incR k { s with dn := rup s.dn k ((st + (R k).up) % W64) }, ops ++ [⟨k, true, st, (st + (R k).up) % W64⟩])
def addC (R : Nat → RailD) (now : Nat) : Nat → List Nat → RSt → RSt × List ROp
  | k, [], s => if s.cnt k = 0 then addFin R k (max now (s.dn k)) s [] else (incR k s, [])
  | k, q :: L, s => if s.cnt k = 0 then addFin R k (max (max now (s.dn k)) ((addC R now q L s).1.dn q)) (addC R now q L s).1 (addC R now q L s).2 else (incR k s, [])
def startD (R : Nat → RailD) (k now : Nat) (s : RSt) : Nat → Nat
  | 0 => max now (s.dn k)
  | i + 1 => if (R i).sup = (k : Int) then max (startD R k now s i) (s.dn i) else startD R k now s i
def decR (k : Nat) (s : RSt) : RSt := { s with cnt := rup s.cnt k (s.cnt k - 1) }
def remS (n : Nat) (R : Nat → RailD) (now k : Nat) (s : RSt) : RSt :=
  { decR k s with dn := rup s.dn k ((startD R k now s n + (R k).dn) % W64) }
def remO (n : Nat) (R : Nat → RailD) (now k : Nat) (s : RSt) : ROp := ⟨k, false, startD R k now s n, (startD R k now s n + (R k).dn) % W64⟩
def remC (n : Nat) (R : Nat → RailD) (now : Nat) : Nat → List Nat → RSt → RSt × List ROp
  | k, [], s => if 1 < s.cnt k then (decR k s, []) else (remS n R now k s, [remO n R now k s])
  | k, q :: L, s => if 1 < s.cnt k then (decR k s, []) else ((remC n R now q L (remS n R now k s)).1, remO n R now k s :: (remC n R now q L (remS n R now k s)).2)
/-- The number of rails in use that rail j feeds. -/
def heldN (R : Nat → RailD) (s : RSt) (j : Nat) : Nat → Nat
  | 0 => 0
  | i + 1 => heldN R s j i + (if (R i).sup = (j : Int) ∧ 0 < s.cnt i then 1 else 0)
/-- Each rail's count is that of the rails in use that it feeds and f's uses. -/
def Own (n : Nat) (R : Nat → RailD) (s : RSt) (f : Nat → Nat) : Prop := ∀ j, j < n → s.cnt j = heldN R s j n + f j
section
variable {n : Nat} {R : Nat → RailD} {s s' : RSt} {now k j : Nat} {L : List Nat} {f : Nat → Nat}
theorem heldN_congr (h : ∀ i, (R i).sup = (j : Int) → (0 < s.cnt i ↔ 0 < s'.cnt i)) : ∀ m, heldN R s j m = heldN R s' j m
  | 0 => rfl
  | m + 1 => by
    rw [heldN, heldN, heldN_congr h m]
    by_cases e : (R m).sup = (j : Int)
    · simp [e, h m e]
    · simp [e]
theorem heldN_turn (h : ∀ i, i ≠ k → s.cnt i = s'.cnt i) (hz : s.cnt k = 0) (hp : 0 < s'.cnt k) : ∀ m, heldN R s' j m = heldN R s j m + (if k < m ∧ (R k).sup = (j : Int) then 1 else 0)
  | 0 => by simp [heldN]
  | m + 1 => by
    rw [heldN, heldN, heldN_turn h hz hp m]
    by_cases e : m = k
    · subst e
      simp [hz, hp]
    · rw [h m e]
      by_cases e2 : k < m
      · have : k < m + 1 := by omega
        by_cases e3 : (R k).sup = (j : Int)
        · simp [e2, e3, this]
          omega
        · simp [e3]
      · have : ¬ k < m + 1 := by omega
        simp [e2, this]
theorem addFin_cnt (R : Nat → RailD) (k st : Nat) (s : RSt) (ops : List ROp) : (addFin R k st s ops).1.cnt = rup s.cnt k (s.cnt k + 1) := rfl
/-- Nothing changes off the chain. -/
theorem add_far : ∀ {k : Nat} {L : List Nat} {s : RSt}, j ∉ k :: L → (addC R now k L s).1.cnt j = s.cnt j ∧ (addC R now k L s).1.dn j = s.dn j
  | k, [], s, h => by
    have hj : j ≠ k := fun e => h (by simp [e])
    unfold addC
    split
    · exact ⟨rup_other hj, rup_other hj⟩
    · exact ⟨rup_other hj, rfl⟩
  | k, q :: L, s, h => by
    have hj : j ≠ k := fun e => h (by simp [e])
    have hq : j ∉ q :: L := fun e => h (List.mem_cons_of_mem _ e)
    obtain ⟨h1, h2⟩ := add_far (k := q) (L := L) (s := s) hq
    unfold addC
    split
    · exact ⟨(rup_other hj).trans h1, (rup_other hj).trans h2⟩
    · exact ⟨rup_other hj, rfl⟩
theorem rem_far : ∀ {k : Nat} {L : List Nat} {s : RSt}, j ∉ k :: L → (remC n R now k L s).1.cnt j = s.cnt j ∧ (remC n R now k L s).1.dn j = s.dn j
  | k, [], s, h => by
    have hj : j ≠ k := fun e => h (by simp [e])
    unfold remC
    split
    · exact ⟨rup_other hj, rfl⟩
    · exact ⟨rup_other hj, rup_other hj⟩
  | k, q :: L, s, h => by
    have hj : j ≠ k := fun e => h (by simp [e])
    have hq : j ∉ q :: L := fun e => h (List.mem_cons_of_mem _ e)
    obtain ⟨h1, h2⟩ := rem_far (k := q) (L := L) (s := remS n R now k s) hq
    unfold remC
    split
    · exact ⟨rup_other hj, rfl⟩
    · exact ⟨h1.trans (rup_other hj), h2.trans (rup_other hj)⟩
theorem add_clk : ∀ {k : Nat} {L : List Nat} {s : RSt}, (addC R now k L s).1.clk = s.clk
  | k, [], s => by unfold addC; split <;> rfl
  | k, q :: L, s => by
    unfold addC
    split
    · exact add_clk (k := q) (L := L) (s := s)
    · rfl
theorem rem_clk : ∀ {k : Nat} {L : List Nat} {s : RSt}, (remC n R now k L s).1.clk = s.clk
  | k, [], s => by unfold remC; split <;> rfl
  | k, q :: L, s => by
    unfold remC
    split
    · rfl
    · exact rem_clk (k := q) (L := L) (s := remS n R now k s)
theorem Own.inc (h : Own n R s f) (hp : s.cnt k ≠ 0) : Own n R (incR k s) (fun j => f j + if j = k then 1 else 0) := fun j hj => by
  have hh := heldN_congr (R := R) (s := s) (s' := incR k s) (j := j) (fun i _ => by
    show 0 < s.cnt i ↔ 0 < rup s.cnt k (s.cnt k + 1) i
    by_cases e : i = k
    · subst e; rw [rup_same]; omega
    · rw [rup_other e]) n
  have h1 := h j hj
  show rup s.cnt k (s.cnt k + 1) j = _
  rw [← hh]
  dsimp only
  by_cases e : j = k
  · subst e
    rw [rup_same, if_pos rfl]
    omega
  · rw [rup_other e, if_neg e]
    omega
/-- An acquired rail has one use more, all others as many as before. -/
theorem add_own (hc : Chn n R k L) : ∀ {s : RSt} {f : Nat → Nat}, Own n R s f → Own n R (addC R now k L s).1 (fun j => f j + if j = k then 1 else 0) := by
  induction hc with
  | @root k hk hs =>
    intro s f h
    unfold addC
    split
    · rename_i hz
      intro j hj
      have ht := heldN_turn (R := R) (j := j) (s := s) (s' := (addFin R k (max now (s.dn k)) s []).1) (k := k) (fun i hi => by rw [addFin_cnt, rup_other hi]) hz (by rw [addFin_cnt, rup_same]; omega) n
      have hn : ¬ (k < n ∧ (R k).sup = (j : Int)) := by omega
      rw [if_neg hn] at ht
      have h1 := h j hj
      rw [ht, addFin_cnt]
      dsimp only
      by_cases e : j = k
      · subst e
        rw [rup_same, if_pos rfl]
        omega
      · rw [rup_other e, if_neg e]
        omega
    · rename_i hz
      exact h.inc hz
  | @next k q L hk hs hc hn ih =>
    intro s f h
    unfold addC
    split
    · rename_i hz
      have hI := ih h
      have hkq : k ∉ q :: L := hn
      obtain ⟨hf1, -⟩ := add_far (R := R) (now := now) (s := s) hkq
      generalize hs1 : (addC R now q L s).1 = s1 at hI hf1
      intro j hj
      generalize hst : max (max now (s.dn k)) (s1.dn q) = st
      have ht := heldN_turn (R := R) (j := j) (s := s1) (s' := (addFin R k st s1 (addC R now q L s).2).1) (k := k) (fun i hi => by rw [addFin_cnt, rup_other hi]) (by omega) (by rw [addFin_cnt, rup_same]; omega) n
      have h1 := hI j hj
      rw [ht, addFin_cnt]
      dsimp only
      by_cases e : j = k
      · subst e
        have hjq : j ≠ q := fun e2 => hkq (by simp [e2])
        have hself : ¬ (j < n ∧ (R j).sup = (j : Int)) := by rw [hs]; omega
        simp only [if_neg hjq] at h1
        rw [rup_same, if_pos rfl, if_neg hself]
        omega
      · rw [rup_other e, if_neg e]
        by_cases e2 : j = q
        · subst e2
          rw [if_pos ⟨hk, hs⟩]
          simp only [if_pos] at h1
          omega
        · have : ¬ (k < n ∧ (R k).sup = (j : Int)) := by rw [hs]; omega
          rw [if_neg this]
          simp only [if_neg e2] at h1
          omega
    · rename_i hz
      exact h.inc hz
theorem Own.dec (h : Own n R s f) (hp : 1 < s.cnt k) (hf : 1 ≤ f k) : Own n R (decR k s) (fun j => f j - if j = k then 1 else 0) := fun j hj => by
  have hh := heldN_congr (R := R) (s := s) (s' := decR k s) (j := j) (fun i _ => by
    show 0 < s.cnt i ↔ 0 < rup s.cnt k (s.cnt k - 1) i
    by_cases e : i = k
    · subst e; rw [rup_same]; omega
    · rw [rup_other e]) n
  have h1 := h j hj
  show rup s.cnt k (s.cnt k - 1) j = _
  rw [← hh]
  dsimp only
  by_cases e : j = k
  · subst e
    rw [rup_same, if_pos rfl]
    omega
  · rw [rup_other e, if_neg e]
    omega
/-- A rail that goes off: its supply has one use too many till it is released. -/
theorem Own.off (h : Own n R s f) (hk : k < n) (hp : ¬ 1 < s.cnt k) (hf : 1 ≤ f k) : Own n R (remS n R now k s) (fun j => (f j - if j = k then 1 else 0) + if (R k).sup = (j : Int) then 1 else 0) := fun j hj => by
  have hk1 := h k hk
  have hc1 : s.cnt k = 1 := by omega
  have ht := heldN_turn (R := R) (j := j) (s := remS n R now k s) (s' := s) (k := k) (fun i hi => by show rup s.cnt k _ i = _; rw [rup_other hi]) (by show rup s.cnt k _ k = 0; rw [rup_same]; omega) (by omega) n
  have h1 := h j hj
  show rup s.cnt k (s.cnt k - 1) j = _
  rw [ht] at h1
  have hx : (if k < n ∧ (R k).sup = (j : Int) then 1 else 0) = (if (R k).sup = (j : Int) then 1 else 0) := by simp [hk]
  rw [hx] at h1
  dsimp only
  by_cases e : j = k
  · subst e
    rw [rup_same, if_pos rfl]
    omega
  · rw [rup_other e, if_neg e]
    omega
theorem rem_own (hc : Chn n R k L) : ∀ {s : RSt} {f : Nat → Nat}, Own n R s f → 1 ≤ f k → Own n R (remC n R now k L s).1 (fun j => f j - if j = k then 1 else 0) := by
  induction hc with
  | @root k hk hs =>
    intro s f h hf
    unfold remC
    split
    · rename_i hz
      exact h.dec hz hf
    · rename_i hz
      intro j hj
      have h1 := h.off (now := now) hk hz hf j hj
      have hn : ¬ (R k).sup = (j : Int) := by omega
      simp only [if_neg hn] at h1
      simp only
      omega
  | @next k q L hk hs hc hn ih =>
    intro s f h hf
    unfold remC
    split
    · rename_i hz
      exact h.dec hz hf
    · rename_i hz
      have h1 := h.off (now := now) hk hz hf
      have hkq : ¬ q = k := fun e => hn (by simp [e])
      have h2 := ih h1 (by simp [hs])
      intro j hj
      have h3 := h2 j hj
      simp only
      rw [h3]
      simp only [hs]
      by_cases e : j = q
      · subst e
        simp [hkq]
      · have : ¬ (q : Int) = (j : Int) := by omega
        simp [e, this]
end
end Go.Proofs.Ytdocdgghphhdpaa
