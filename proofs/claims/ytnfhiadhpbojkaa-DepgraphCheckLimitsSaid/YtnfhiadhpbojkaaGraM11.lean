/- The plain model of the links that the law DepgraphCheckLimits makes. -/
import Derived.Test.YtnfhiadhpbojkaaGraM6
namespace Go.Proofs.Ytnfhiadhpbojkaa

def limStep (t c : Nat) (out : List (Nat × Nat)) (s : Nat) : List (Nat × Nat) := if out.length < 1024 ∧ (c + s + t) % 3 ≠ 0 then out ++ [(c, s)] else out
def limIn (t c : Nat) (out : List (Nat × Nat)) (k : Nat) : List (Nat × Nat) := (List.range k).foldl (limStep t c) out
def limOut (t : Nat) (k : Nat) : List (Nat × Nat) := (List.range k).foldl (fun out c => limIn t c out c) []
theorem limIn_succ (t c : Nat) (out : List (Nat × Nat)) (k : Nat) : limIn t c out (k + 1) = limStep t c (limIn t c out k) k := by simp [limIn, List.range_succ]
theorem limOut_succ (t k : Nat) : limOut t (k + 1) = limIn t k (limOut t k) k := by simp [limOut, List.range_succ]
theorem limIn_full {t c : Nat} {out : List (Nat × Nat)} (h : 1024 ≤ out.length) (k : Nat) : limIn t c out k = out := by
  induction k with
  | zero => rfl
  | succ k ih =>
    rw [limIn_succ, ih]
    unfold limStep
    rw [if_neg (by omega)]
theorem limIn_stop {t c : Nat} {out : List (Nat × Nat)} {k : Nat} (h : 1024 ≤ (limIn t c out k).length) (j : Nat) : limIn t c out (k + j) = limIn t c out k := by
  induction j with
  | zero => rfl
  | succ j ih =>
    rw [← Nat.add_assoc, limIn_succ, ih]
    unfold limStep
    rw [if_neg (by omega)]
theorem limOut_stop {t k : Nat} (h : 1024 ≤ (limOut t k).length) (j : Nat) : limOut t (k + j) = limOut t k := by
  induction j with
  | zero => rfl
  | succ j ih => rw [← Nat.add_assoc, limOut_succ, ih, limIn_full h]
/-- The lengths alone. -/
def cntStep (t c n s : Nat) : Nat := if n < 1024 ∧ (c + s + t) % 3 ≠ 0 then n + 1 else n
def cntIn (t c n k : Nat) : Nat := (List.range k).foldl (cntStep t c) n
def cntOut (t k : Nat) : Nat := (List.range k).foldl (fun n c => cntIn t c n c) 0
theorem limIn_len (t c : Nat) (out : List (Nat × Nat)) (k : Nat) : (limIn t c out k).length = cntIn t c out.length k := by
  induction k with
  | zero => rfl
  | succ k ih =>
    have : cntIn t c out.length (k + 1) = cntStep t c (cntIn t c out.length k) k := by simp [cntIn, List.range_succ]
    rw [limIn_succ, this, ← ih]
    unfold limStep cntStep
    split <;> simp
theorem limOut_len (t k : Nat) : (limOut t k).length = cntOut t k := by
  induction k with
  | zero => rfl
  | succ k ih =>
    have : cntOut t (k + 1) = cntIn t k (cntOut t k) k := by simp [cntOut, List.range_succ]
    rw [limOut_succ, limIn_len, this, ih]
/-- A fold that reckons each number before it goes on. -/
def frc (f : Nat → Nat → Nat) : List Nat → Nat → Nat
  | [], n => n
  | x :: xs, n => match f n x with
    | 0 => frc f xs 0
    | m + 1 => frc f xs (m + 1)
theorem frc_eq (f : Nat → Nat → Nat) : ∀ (xs : List Nat) (n : Nat), frc f xs n = xs.foldl f n
  | [], n => rfl
  | x :: xs, n => by
    rw [frc, List.foldl_cons]
    cases h : f n x with
    | zero => exact frc_eq f xs 0
    | succ m => exact frc_eq f xs (m + 1)
def cntF (t k : Nat) : Nat := frc (fun n c => frc (cntStep t c) (List.range c) n) (List.range k) 0
theorem cntF_eq (t k : Nat) : cntF t k = cntOut t k := by
  unfold cntF cntOut cntIn
  rw [frc_eq]
  congr 1
  funext n c
  rw [frc_eq]
theorem cnt_full0 : cntF 0 127 = 1024 := by decide +kernel
theorem cnt_full1 : cntF 1 127 = 1024 := by decide +kernel
theorem cnt_full2 : cntF 2 127 = 1024 := by decide +kernel
theorem lim_full {t : Nat} (ht : t < 3) : (limOut t 127).length = 1024 := by
  rw [limOut_len, ← cntF_eq]
  have : t = 0 ∨ t = 1 ∨ t = 2 := by omega
  rcases this with rfl | rfl | rfl
  · exact cnt_full0
  · exact cnt_full1
  · exact cnt_full2
/-- All pairs made so far stand before (c, s). -/
structure LimOk (c s : Nat) (out : List (Nat × Nat)) : Prop where
  before : ∀ p ∈ out, p.1 < c ∨ (p.1 = c ∧ p.2 < s)
  down : ∀ p ∈ out, p.2 < p.1
  nodup : out.Nodup
  len : out.length ≤ 1024
theorem LimOk.step {t c s : Nat} {out : List (Nat × Nat)} (h : LimOk c s out) (hs : s < c) : LimOk c (s + 1) (limStep t c out s) := by
  unfold limStep
  have hw : ∀ p ∈ out, p.1 < c ∨ (p.1 = c ∧ p.2 < s + 1) := fun p hp => by have := h.before p hp; omega
  split
  · rename_i hx
    refine ⟨fun p hp => ?_, fun p hp => ?_, ?_, by simp; omega⟩
    · rcases List.mem_append.1 hp with hp | hp
      · exact hw p hp
      · rw [List.mem_singleton.1 hp]; exact .inr ⟨rfl, by simp⟩
    · rcases List.mem_append.1 hp with hp | hp
      · exact h.down p hp
      · rw [List.mem_singleton.1 hp]; exact hs
    · rw [List.nodup_append]
      refine ⟨h.nodup, by simp, fun a ha b hb => ?_⟩
      rw [List.mem_singleton.1 hb]
      rintro rfl
      have := h.before _ ha
      simp at this
  · exact ⟨hw, h.down, h.nodup, h.len⟩
theorem limIn_ok {t c : Nat} {out : List (Nat × Nat)} (h : LimOk c 0 out) : ∀ k, k ≤ c → LimOk c k (limIn t c out k)
  | 0, _ => h
  | k + 1, hk => by
    rw [limIn_succ]
    exact (limIn_ok h k (by omega)).step (by omega)
theorem limOut_ok (t : Nat) : ∀ k, LimOk k 0 (limOut t k)
  | 0 => ⟨by simp [limOut], by simp [limOut], by simp [limOut], by simp [limOut]⟩
  | k + 1 => by
    rw [limOut_succ]
    have h := limIn_ok (t := t) (limOut_ok t k) k (Nat.le_refl _)
    exact ⟨fun p hp => by have := h.before p hp; omega, h.down, h.nodup, h.len⟩
def limL (t : Nat) : List (Nat × Nat) := limOut t 128
theorem limL_eq {t : Nat} (ht : t < 3) : limL t = limOut t 127 := limOut_stop (by rw [lim_full ht]; omega) 1
theorem limL_len {t : Nat} (ht : t < 3) : (limL t).length = 1024 := by rw [limL_eq ht, lim_full ht]
theorem limL_last {t : Nat} (ht : t < 3) : (127, 126) ∉ limL t := fun h => by
  rw [limL_eq ht] at h
  have := (limOut_ok t 127).before _ h
  simp at this
theorem limL_links {t : Nat} (ht : t < 3) : LinksOk 128 (ofNs (limL t)) ∧ (ofNs (limL t)).Nodup ∧ Acyc (limL t) ∧ ∀ p ∈ limL t, p.1 < 128 ∧ p.2 < 128 := by
  have h := limOut_ok t 128
  have hlt : ∀ p ∈ limL t, p.1 < 128 ∧ p.2 < 128 := fun p hp => by
    have h1 := h.before p hp
    have h2 := h.down p hp
    omega
  refine ⟨⟨by omega, by omega, by rw [ofNs_length, limL_len ht]; omega, fun p hp => ?_⟩, ofNs_nodup h.nodup, ?_, hlt⟩
  · obtain ⟨q, hq, rfl⟩ := List.mem_map.1 hp
    have := hlt q hq
    unfold LinkOk ofN
    simp only
    omega
  · have hr : ∀ a b, Req (limL t) a b → b < a := fun a b hab => by
      induction hab with
      | one hp => exact h.down _ hp
      | step hp _ ih => exact Nat.lt_trans ih (h.down _ hp)
    intro a ha
    have := hr a a ha
    omega
end Go.Proofs.Ytnfhiadhpbojkaa
