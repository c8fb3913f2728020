/- The law DepgraphCycleAgrees, walked. -/
import Derived.Test.YtnfhiadhpbojkaaMgDepgraphReversal8
import Derived.Test.YtnfhiadhpbojkaaGraR5Mg
import Derived.Test.YtnfhiadhpbojkaaGraM4Mg
namespace Go.Proofs.Ytnfhiadhpbojkaa
open Go.RowKit

theorem cycF_len (f : Nat → Nat) : ∀ (k : Nat) (wk : List Nat) (v : Nat), (cycF f k wk v).length ≤ wk.length + k
  | 0, wk, v => by simp [cycF]
  | k + 1, wk, v => by
    unfold cycF
    split
    · rw [List.length_drop]
      omega
    · have := cycF_len f k (wk ++ [v]) (f v)
      rw [List.length_append, List.length_singleton] at this
      omega
theorem cycleM_len (n : Int) (l : List (Int × Int)) : (cycleM n l).1.length ≤ 1000 := by
  by_cases hb : basicM n l = 0
  · obtain ⟨hok, hnd⟩ := basicM_zero hb
    obtain ⟨N, rfl⟩ := Int.eq_ofNat_of_zero_le hok.1
    have hN : N ≤ 128 := by have := hok.2.1; omega
    cases h : firstLeft N (greedy N (toNs l)) with
    | none => rw [cycleM_none hb h]; simp
    | some v =>
      rw [cycleM_some hb h]
      have := cycF_len (nx (toNs l) (greedy N (toNs l))) (N + 1) [] v
      simp only [List.length_nil] at this
      simp only
      omega
  · rw [cycleM_bad hb]
    simp
set_option maxHeartbeats 2000000 in
set_option maxRecDepth 100000 in
theorem cycleAgrees_walk (n : Int) (A : Option Addr) (cp : Nat) (raw : List (Int × Int)) (w : World) (hr : Row w A (pcs raw)) (hm : raw.length ≤ maxLen) :
    Calls Try.prog 5 #[.int .i64 n, .slice A raw.length cp] w fun e w' => e = .returned (.bool true) ∧ Fr [] w w' := by
  unfold maxLen at hm
  have HR := hide hr
  clear hr
  by_cases h40 : 40 < raw.length
  · have hb : decide ((40 : Int) < (raw.length : Int)) = true := by simp; omega
    go_enter Try.func5, Try.ntmps5
    go_wp2_with fail
    refine (awake24_any w).mono ?_
    rintro e w1 ⟨rfl, hfr⟩
    go_wp2
    go_ret
    exact ⟨rfl, hfr⟩
  · have hb : decide ((40 : Int) < (raw.length : Int)) = false := by simp; omega
    have h40' : raw.length ≤ 40 := by omega
    clear h40 hm
    go_enter Try.func5, Try.ntmps5
    go_wp2_with fail
    refine (graph_any n A cp raw false w HR.out (by omega)).mono ?_
    rintro e w1 ⟨v1, rfl, hown1, hf1⟩
    obtain ⟨A1, c1, rfl, -, hrow1, -⟩ := own_slice hown1
    have hgl := (graphM_ok n raw false).len
    rw [← ofNs_length] at hgl
    rw [← ofNs_length]
    generalize ofNs (graphM n raw false) = l at hgl hrow1 ⊢
    generalize (gNodes n : Int) = m
    have HG := hide hrow1
    clear hrow1 hown1
    go_wp2_with fail
    refine (cycle_any24 n A cp raw w1 (HR.out.fr0 hf1) (by omega)).mono ?_
    rintro e w2 ⟨v2, rfl, hown2, hf2⟩
    obtain ⟨A2, c2, rfl, -, hrow2, -⟩ := own_slice hown2
    have H2 := hide hrow2
    have hw2 := hf1.call hf2
    have HG2 := hide (HG.out.fr0 hf2)
    clear hrow2 hown2 HG
    go_wp2_with fail
    refine (rcycle_any24 n A cp raw w2 (HR.out.fr0 hw2) (by omega)).mono ?_
    rintro e w3 ⟨v3, rfl, hown3, hf3⟩
    obtain ⟨A3, c3, rfl, -, hrow3, -⟩ := own_slice hown3
    have H23 := hide (H2.out.fr0 hf3)
    have H3 := hide hrow3
    have hw3 := hw2.call hf3
    have HG3 := hide (HG2.out.fr0 hf3)
    clear hrow3 hown3 HG2 H2
    go_wp2_with fail
    refine (cycle_any24 m A1 c1 l w3 HG3.out (by omega)).mono ?_
    rintro e w4 ⟨v4, rfl, hown4, hf4⟩
    obtain ⟨A4, c4, rfl, -, hrow4, -⟩ := own_slice hown4
    have H24 := hide (H23.out.fr0 hf4)
    have H34 := hide (H3.out.fr0 hf4)
    have H4 := hide hrow4
    have hw4 := hw3.call hf4
    have HG4 := hide (HG3.out.fr0 hf4)
    clear hrow4 hown4 HG3 H23 H3
    go_wp2_with fail
    refine (rcycle_any24 m A1 c1 l w4 HG4.out (by omega)).mono ?_
    rintro e w5 ⟨v5, rfl, hown5, hf5⟩
    obtain ⟨A5, c5, rfl, -, hrow5, -⟩ := own_slice hown5
    have H25 := hide (H24.out.fr0 hf5)
    have H35 := hide (H34.out.fr0 hf5)
    have H45 := hide (H4.out.fr0 hf5)
    have H5 := hide hrow5
    have hw5 := hw4.call hf5
    clear hrow5 hown5 HG4 H24 H34 H4
    have ho1 : (cycleM n raw).1.length ≤ 1000 := cycleM_len n raw
    have ho2 : (cycleM m l).1.length ≤ 1000 := cycleM_len m l
    generalize cycleM n raw = o1 at ho1 H25 H35 ⊢
    generalize cycleM m l = o2 at ho2 H45 H5 ⊢
    have e1 : (o1.2 == o1.2) = true := by simp
    have e2 : (o2.2 == o2.2) = true := by simp
    go_wp2_with fail
    refine (equalNats_any A2 A3 c2 c3 o1.1 o1.1 w5 H25.out H35.out (by omega) (by omega)).mono ?_
    rintro e w6 ⟨rfl, hf6⟩
    rw [decide_eq_true rfl]
    go_wp2_with fail
    refine (equalNats_any A4 A5 c4 c5 o2.1 o2.1 w6 (H45.out.fr0 hf6) (H5.out.fr0 hf6) (by omega) (by omega)).mono ?_
    rintro e w7 ⟨rfl, hf7⟩
    rw [decide_eq_true rfl]
    go_wp2_with fail
    refine (awake24_any w7).mono ?_
    rintro e w8 ⟨rfl, hf8⟩
    go_wp2
    go_ret
    exact ⟨rfl, ((hw5.call hf6).call hf7).call hf8⟩
end Go.Proofs.Ytnfhiadhpbojkaa

/- What the walk to the smallest remaining suppliers comes to: a cycle of distinct nodes. -/
namespace Go.Proofs.Ytnfhiadhpbojkaa

/-- Each node is followed by the next one, and v is what follows the last one. -/
def Chain (f : Nat → Nat) (wk : List Nat) (v : Nat) : Prop := ∀ i u, wk[i]? = some u → (wk ++ [v])[i + 1]? = some (f u)
theorem Chain.snoc {f : Nat → Nat} {wk : List Nat} {v : Nat} (h : Chain f wk v) : Chain f (wk ++ [v]) (f v) := by
  intro i u hi
  by_cases hl : i < wk.length
  · rw [List.getElem?_append_left hl] at hi
    have := h i u hi
    have hl2 : i + 1 < (wk ++ [v]).length := by simp; omega
    rw [List.getElem?_append_left hl2]
    exact this
  · have hio : i = wk.length := by
      have := (List.getElem?_eq_some_iff.1 hi).1
      simp at this
      omega
    subst hio
    simp at hi
    subst hi
    rw [List.getElem?_append_right (by simp)]
    simp
/-- The cycle: not empty, distinct nodes, each followed by the next, the last by the first. -/
def IsCyc (f : Nat → Nat) (R : Nat → Prop) (c : List Nat) : Prop := 0 < c.length ∧ c.Nodup ∧ (∀ u ∈ c, R u) ∧ ∀ i u, c[i]? = some u → c[(i + 1) % c.length]? = some (f u)
theorem cycF_cyc {n : Nat} {f : Nat → Nat} {R : Nat → Prop} (hR : ∀ u, R u → u < n ∧ R (f u)) : ∀ (k : Nat) (wk : List Nat) (v : Nat), Chain f wk v → wk.Nodup → (∀ u ∈ wk, R u) → R v → n + 1 ≤ k + wk.length → IsCyc f R (cycF f k wk v)
  | 0, wk, v, _, hn, hw, _, hk => by
    have := nodup_length_le (fun u hu => (hR u (hw u hu)).1) hn
    omega
  | k + 1, wk, v, hc, hn, hw, hv, hk => by
    unfold cycF
    split
    · rename_i hin
      have hq := List.idxOf_lt_length_of_mem hin
      have hqv : wk[wk.idxOf v]? = some v := by rw [List.getElem?_eq_getElem hq, List.getElem_idxOf hq]
      generalize wk.idxOf v = q at hq hqv
      have hlen : (wk.drop q).length = wk.length - q := List.length_drop
      refine ⟨by omega, hn.sublist (List.drop_sublist _ _), fun u hu => hw u (List.mem_of_mem_drop hu), fun i u hi => ?_⟩
      have hil : i < wk.length - q := by
        have := (List.getElem?_eq_some_iff.1 hi).1
        omega
      rw [List.getElem?_drop] at hi
      have hnx := hc _ _ hi
      rw [hlen]
      by_cases hlast : i + 1 = wk.length - q
      · rw [hlast, Nat.mod_self, List.getElem?_drop, Nat.add_zero, hqv]
        rw [List.getElem?_append_right (by omega), show q + i + 1 - wk.length = 0 by omega] at hnx
        exact hnx
      · rw [Nat.mod_eq_of_lt (by omega), List.getElem?_drop]
        rw [List.getElem?_append_left (by omega)] at hnx
        rw [← Nat.add_assoc]
        exact hnx
    · rename_i hin
      refine cycF_cyc hR k _ _ hc.snoc ?_ (fun u hu => ?_) (hR v hv).2 (by simp; omega)
      · rw [List.nodup_append]
        exact ⟨hn, by simp, fun a ha b hb => by rw [List.mem_singleton.1 hb]; rintro rfl; exact hin ha⟩
      · rcases List.mem_append.1 hu with h | h
        · exact hw u h
        · rw [List.mem_singleton.1 h]; exact hv
theorem cycle_cyc {N : Nat} {L : List (Nat × Nat)} (hN : N ≤ 128) (hL : ∀ p ∈ L, p.1 < N ∧ p.2 < N) {v : Nat} (h : firstLeft N (greedy N L) = some v) :
    IsCyc (nx L (greedy N L)) (fun u => u < N ∧ u ∉ greedy N L) (cycF (nx L (greedy N L)) (N + 1) [] v) := by
  obtain ⟨h1, h2, _⟩ := firstLeft_some.1 h
  refine cycF_cyc (n := N) (fun u hu => ⟨hu.1, ?_⟩) (N + 1) [] v (fun i u hi => by simp at hi) (by simp) (by simp) ⟨h1, h2⟩ (by simp)
  obtain ⟨_, _, h5, h6⟩ := nx_next hN hL hu.1 hu.2
  exact ⟨h5, h6⟩
end Go.Proofs.Ytnfhiadhpbojkaa

