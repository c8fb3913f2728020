/- The plain model of the reference's closure: n turns over the links. -/
import Derived.Test.YtnfhiadhpbojkaaGraM9Mg
namespace Go.Proofs.Ytnfhiadhpbojkaa

def tStep (R : Nat → Bool) (p : Nat × Nat) : Nat → Bool := if R p.1 then (fun u => if u = p.2 then true else R u) else R
def turnT (K : List (Nat × Nat)) (R : Nat → Bool) : Nat → Bool := K.foldl tStep R
def iterT (K : List (Nat × Nat)) : Nat → (Nat → Bool) → Nat → Bool
  | 0, R => R
  | k + 1, R => turnT K (iterT K k R)
theorem tStep_mono {R : Nat → Bool} {p : Nat × Nat} {u : Nat} (h : R u = true) : tStep R p u = true := by
  unfold tStep
  split
  · by_cases e : u = p.2 <;> simp [e, h]
  · exact h
theorem fold_mono {u : Nat} : ∀ (K : List (Nat × Nat)) (R : Nat → Bool), R u = true → K.foldl tStep R u = true
  | [], _, h => h
  | p :: K, R, h => by
    rw [List.foldl_cons]
    exact fold_mono K _ (tStep_mono h)
theorem fold_sound {K0 : List (Nat × Nat)} {of : List Nat} : ∀ (K : List (Nat × Nat)) (R : Nat → Bool), (∀ p ∈ K, p ∈ K0) → (∀ v, R v = true → Rch K0 of v) → ∀ v, K.foldl tStep R v = true → Rch K0 of v
  | [], _, _, h => h
  | p :: K, R, hk, h => by
    rw [List.foldl_cons]
    refine fold_sound K _ (fun q hq => hk q (List.mem_cons_of_mem _ hq)) (fun v hv => ?_)
    unfold tStep at hv
    split at hv
    · rename_i hp
      by_cases e : v = p.2
      · rw [e]
        exact (h p.1 hp).step (hk p (List.mem_cons_self ..))
      · have hv' : R v = true := by simpa [e] using hv
        exact h v hv'
    · exact h v hv
theorem fold_hit : ∀ (K : List (Nat × Nat)) (R : Nat → Bool) {v s : Nat}, (v, s) ∈ K → R v = true → K.foldl tStep R s = true
  | [], _, _, _, h, _ => by cases h
  | p :: K, R, v, s, h, hv => by
    rw [List.foldl_cons]
    rcases List.mem_cons.1 h with e | h
    · subst e
      refine fold_mono K _ ?_
      simp [tStep, hv]
    · exact fold_hit K _ h (tStep_mono hv)
def Closed (K : List (Nat × Nat)) (R : Nat → Bool) : Prop := ∀ v s, R v = true → (v, s) ∈ K → R s = true
theorem turn_closed {K : List (Nat × Nat)} {R : Nat → Bool} (h : Closed K R) : turnT K R = R := by
  unfold turnT
  have : ∀ K' : List (Nat × Nat), (∀ p ∈ K', p ∈ K) → K'.foldl tStep R = R := by
    intro K'
    induction K' with
    | nil => intro _; rfl
    | cons p K' ih =>
      intro hk
      rw [List.foldl_cons]
      have hs : tStep R p = R := by
        unfold tStep
        split
        · rename_i hp
          have := h p.1 p.2 hp (hk p (List.mem_cons_self ..))
          funext u
          by_cases e : u = p.2
          · simp [e, this]
          · simp [e]
        · rfl
      rw [hs]
      exact ih (fun q hq => hk q (List.mem_cons_of_mem _ hq))
  exact this K (fun p hp => hp)
theorem cnt_mono {n : Nat} {R R' : Nat → Bool} (h : ∀ u, R u = true → R' u = true) : cnt n R ≤ cnt n R' := by
  unfold cnt
  rw [← List.countP_eq_length_filter, ← List.countP_eq_length_filter]
  exact List.countP_mono_left (fun u _ hu => h u hu)
theorem turn_more {n : Nat} {K : List (Nat × Nat)} (hK : ∀ p ∈ K, p.1 < n ∧ p.2 < n) {R : Nat → Bool} (h : ¬ Closed K R) : cnt n R + 1 ≤ cnt n (turnT K R) := by
  have : ∃ v s, R v = true ∧ (v, s) ∈ K ∧ R s = false := by
    apply Classical.byContradiction
    intro hno
    refine h (fun v s hv hs => ?_)
    cases hR : R s with
    | true => rfl
    | false => exact absurd ⟨v, s, hv, hs, hR⟩ hno
  obtain ⟨v, s, hv, hs, hR⟩ := this
  rw [← cnt_set (hK _ hs).2 hR]
  refine cnt_mono (fun u hu => ?_)
  by_cases e : u = s
  · rw [e]; exact fold_hit K R hs hv
  · simp only [if_neg e] at hu
    exact fold_mono K R hu
theorem iterT_succ (K : List (Nat × Nat)) : ∀ (k : Nat) (R : Nat → Bool), iterT K (k + 1) R = iterT K k (turnT K R)
  | 0, _ => rfl
  | k + 1, R => by
    show turnT K (iterT K (k + 1) R) = turnT K (iterT K k (turnT K R))
    rw [iterT_succ K k R]
theorem iter_closed {n : Nat} {K : List (Nat × Nat)} (hK : ∀ p ∈ K, p.1 < n ∧ p.2 < n) : ∀ (k : Nat) (R : Nat → Bool), (∀ v, n ≤ v → R v = false) → n - cnt n R ≤ k → Closed K (iterT K k R)
  | 0, R, _, h => by
    have hle := cnt_le n R
    have hfull : ∀ v, v < n → R v = true := by
      intro v hv
      cases hR : R v with
      | true => rfl
      | false =>
        have h1 := cnt_set hv hR
        have h2 := cnt_le n (fun u => if u = v then true else R u)
        omega
    exact fun v s _ hs => hfull s (hK _ hs).2
  | k + 1, R, h0, h => by
    by_cases hc : Closed K R
    · have : ∀ j, iterT K j R = R := fun j => by
        induction j with
        | zero => rfl
        | succ j ih => rw [iterT, ih, turn_closed hc]
      rw [this]
      exact hc
    · rw [iterT_succ]
      have := turn_more hK hc
      refine iter_closed hK k _ (fun v hv => ?_) (by omega)
      have hs : ∀ K' : List (Nat × Nat), (∀ p ∈ K', p ∈ K) → ∀ R : Nat → Bool, R v = false → K'.foldl tStep R v = false := by
        intro K'
        induction K' with
        | nil => exact fun _ R hR => hR
        | cons p K' ih =>
          intro hk R hR
          rw [List.foldl_cons]
          refine ih (fun q hq => hk q (List.mem_cons_of_mem _ hq)) _ ?_
          have := hK p (hk p (List.mem_cons_self ..))
          unfold tStep
          split
          · simp [show ¬ v = p.2 by omega, hR]
          · exact hR
      exact hs K (fun p hp => hp) R (h0 v hv)
theorem iter_mono {u : Nat} (K : List (Nat × Nat)) : ∀ (k : Nat) (R : Nat → Bool), R u = true → iterT K k R u = true
  | 0, _, h => h
  | k + 1, R, h => fold_mono K _ (iter_mono K k R h)
theorem iter_sound {K : List (Nat × Nat)} {of : List Nat} : ∀ (k : Nat) (R : Nat → Bool), (∀ v, R v = true → Rch K of v) → ∀ v, iterT K k R v = true → Rch K of v
  | 0, _, h => h
  | k + 1, R, h => fold_sound K _ (fun _ hp => hp) (iter_sound k R h)
/-- After n turns all that can be reached is in. -/
theorem iter_reach {n : Nat} {K : List (Nat × Nat)} (hK : ∀ p ∈ K, p.1 < n ∧ p.2 < n) {of : List Nat} (ho : ∀ u ∈ of, u < n) : ∀ v, v < n → iterT K n (fun u => decide (u ∈ of)) v = rchB n K of v := by
  refine rchB_of hK (fun v _ => ⟨iter_sound n _ (fun v hv => ⟨v, of_decide_eq_true hv, .inl rfl⟩) v, fun h => ?_⟩)
  have hc := iter_closed hK n (fun u => decide (u ∈ of)) (fun v hv => decide_eq_false (fun h => by have := ho v h; omega)) (by omega)
  exact h.sub (R := fun u => iterT K n (fun u => decide (u ∈ of)) u = true) (fun u hu => iter_mono K n _ (decide_eq_true hu)) (fun a b ha hb => hc a b ha hb)
end Go.Proofs.Ytnfhiadhpbojkaa

