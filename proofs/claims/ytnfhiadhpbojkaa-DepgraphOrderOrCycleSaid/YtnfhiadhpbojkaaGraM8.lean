/- What the walk to the smallest remaining suppliers comes to: a cycle of distinct nodes. -/
import Derived.Test.YtnfhiadhpbojkaaGraM4
namespace Go.Proofs.Ytnfhiadhpbojkaa

/-- Each node is followed by the next one, and v is what follows the last one. -/
def Chain (f : Nat → Nat) (wk : List Nat) (v : Nat) : Prop := ∀ i u, wk[i]? = some u → (wk ++ [v])[i + 1]? = some (f u)
theorem Chain.snoc {f : Nat → Nat} {wk : List Nat} {v : Nat} (h : Chain f wk v) : Chain f (wk ++ [v]) (f v) := by
  intro i u hi
  by_cases hl : i < wk.length
  · rw [List.getElem?_append_left hl] at hi
    have := h i u hi
    have hl2 : i + 1 < (wk ++ [v]).length := by simp; omega
    rw [List.getElem?_append_left hl2]
    exact this
  · have hio : i = wk.length := by
      have := (List.getElem?_eq_some_iff.1 hi).1
      simp at this
      omega
    subst hio
    simp at hi
    subst hi
    rw [List.getElem?_append_right (by simp)]
    simp
/-- The cycle: not empty, distinct nodes, each followed by the next, the last by the first. -/
def IsCyc (f : Nat → Nat) (R : Nat → Prop) (c : List Nat) : Prop := 0 < c.length ∧ c.Nodup ∧ (∀ u ∈ c, R u) ∧ ∀ i u, c[i]? = some u → c[(i + 1) % c.length]? = some (f u)
theorem cycF_cyc {n : Nat} {f : Nat → Nat} {R : Nat → Prop} (hR : ∀ u, R u → u < n ∧ R (f u)) : ∀ (k : Nat) (wk : List Nat) (v : Nat), Chain f wk v → wk.Nodup → (∀ u ∈ wk, R u) → R v → n + 1 ≤ k + wk.length → IsCyc f R (cycF f k wk v)
  | 0, wk, v, _, hn, hw, _, hk => by
    have := nodup_length_le (fun u hu => (hR u (hw u hu)).1) hn
    omega
  | k + 1, wk, v, hc, hn, hw, hv, hk => by
    unfold cycF
    split
    · rename_i hin
      have hq := List.idxOf_lt_length_of_mem hin
      have hqv : wk[wk.idxOf v]? = some v := by rw [List.getElem?_eq_getElem hq, List.getElem_idxOf hq]
      generalize wk.idxOf v = q at hq hqv
      have hlen : (wk.drop q).length = wk.length - q := List.length_drop
      refine ⟨by omega, hn.sublist (List.drop_sublist _ _), fun u hu => hw u (List.mem_of_mem_drop hu), fun i u hi => ?_⟩
      have hil : i < wk.length - q := by
        have := (List.getElem?_eq_some_iff.1 hi).1
        omega
      rw [List.getElem?_drop] at hi
      have hnx := hc _ _ hi
      rw [hlen]
      by_cases hlast : i + 1 = wk.length - q
      · rw [hlast, Nat.mod_self, List.getElem?_drop, Nat.add_zero, hqv]
        rw [List.getElem?_append_right (by omega), show q + i + 1 - wk.length = 0 by omega] at hnx
        exact hnx
      · rw [Nat.mod_eq_of_lt (by omega), List.getElem?_drop]
        rw [List.getElem?_append_left (by omega)] at hnx
        rw [← Nat.add_assoc]
        exact hnx
    · rename_i hin
      refine cycF_cyc hR k _ _ hc.snoc ?_ (fun u hu => ?_) (hR v hv).2 (by simp; omega)
      · rw [List.nodup_append]
        exact ⟨hn, by simp, fun a ha b hb => by rw [List.mem_singleton.1 hb]; rintro rfl; exact hin ha⟩
      · rcases List.mem_append.1 hu with h | h
        · exact hw u h
        · rw [List.mem_singleton.1 h]; exact hv
theorem cycle_cyc {N : Nat} {L : List (Nat × Nat)} (hN : N ≤ 128) (hL : ∀ p ∈ L, p.1 < N ∧ p.2 < N) {v : Nat} (h : firstLeft N (greedy N L) = some v) :
    IsCyc (nx L (greedy N L)) (fun u => u < N ∧ u ∉ greedy N L) (cycF (nx L (greedy N L)) (N + 1) [] v) := by
  obtain ⟨h1, h2, _⟩ := firstLeft_some.1 h
  refine cycF_cyc (n := N) (fun u hu => ⟨hu.1, ?_⟩) (N + 1) [] v (fun i u hi => by simp at hi) (by simp) (by simp) ⟨h1, h2⟩ (by simp)
  obtain ⟨_, _, h5, h6⟩ := nx_next hN hL hu.1 hu.2
  exact ⟨h5, h6⟩
end Go.Proofs.Ytnfhiadhpbojkaa
