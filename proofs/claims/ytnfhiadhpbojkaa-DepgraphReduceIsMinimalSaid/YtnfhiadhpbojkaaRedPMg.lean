/- Plain laws of Reduce: what the program and the reference hand back is the same. No program is in sight here. -/
import Derived.Test.YtnfhiadhpbojkaaRedR1Mg
namespace Go.Proofs.Ytnfhiadhpbojkaa
open Go.Sort

theorem lnk_inj {a b c d : Nat} (h : lnk a b = lnk c d) : a = c ∧ b = d := by
  unfold lnk at h
  injection h with h1 h2
  exact ⟨by omega, by omega⟩
theorem toN_inj {n : Int} {p q : Int × Int} (hp : LinkOk n p) (hq : LinkOk n q) (h : toN p = toN q) : p = q := by
  obtain ⟨a, b⟩ := p
  obtain ⟨c, d⟩ := q
  unfold toN at h
  unfold LinkOk at hp hq
  simp only at hp hq
  injection h with h1 h2
  simp only at h1 h2
  exact Prod.ext (by show a = c; omega) (by show b = d; omega)
theorem toNs_nodup {n : Int} : ∀ {l : List (Int × Int)}, (∀ p ∈ l, LinkOk n p) → l.Nodup → (toNs l).Nodup
  | [], _, _ => by simp [toNs]
  | p :: l, h, hn => by
    have h1 := List.nodup_cons.1 hn
    have ih := toNs_nodup (fun q hq => h q (List.mem_cons_of_mem _ hq)) h1.2
    show (toN p :: toNs l).Nodup
    refine List.nodup_cons.2 ⟨fun hm => ?_, ih⟩
    obtain ⟨q, hq, e⟩ := List.mem_map.1 hm
    rw [toN_inj (h q (List.mem_cons_of_mem _ hq)) (h p (List.mem_cons_self ..)) e] at hq
    exact h1.1 hq
section
variable {N : Nat} {L : List (Nat × Nat)}
theorem nb_nodup (hn : L.Nodup) (c : Nat) : (nb false L c).Nodup := by
  unfold nb
  refine List.pairwise_map.2 ?_
  have h1 : (L.filter fun p => (ends false p).1 == c).Pairwise (fun a b => a ≠ b ∧ a.1 = c ∧ b.1 = c) := by
    have h2 : (L.filter fun p => (ends false p).1 == c).Pairwise (· ≠ ·) := List.Pairwise.filter _ hn
    refine List.Pairwise.imp_of_mem (fun {a b} ha hb hab => ?_) h2
    have h3 := (List.mem_filter.1 ha).2
    have h4 := (List.mem_filter.1 hb).2
    exact ⟨hab, by simpa [ends] using h3, by simpa [ends] using h4⟩
  refine List.Pairwise.imp (fun {a b} h e => ?_) h1
  obtain ⟨h2, h3, h4⟩ := h
  exact h2 (Prod.ext (by rw [h3, h4]) (by simpa [ends] using e))
theorem keptTo_nodup (hn : L.Nodup) (k : Nat) : (keptTo N L k).Nodup := by
  unfold keptTo
  refine List.pairwise_flatMap.2 ⟨fun c _ => ?_, ?_⟩
  · refine List.pairwise_map.2 (List.Pairwise.imp (fun {a b} h e => h (lnk_inj e).2) (List.Pairwise.filter _ (nb_nodup hn c)))
  · refine List.Pairwise.imp (fun {a b} h x hx y hy e => ?_) List.nodup_range
    obtain ⟨s, -, rfl⟩ := List.mem_map.1 hx
    obtain ⟨t, -, rfl⟩ := List.mem_map.1 hy
    exact h (lnk_inj e).1
theorem refTo_pair (k : Nat) : (refTo N L k).Pairwise LexL := by
  unfold refTo rowT
  refine List.pairwise_flatMap.2 ⟨fun c _ => ?_, ?_⟩
  · refine List.pairwise_map.2 (List.Pairwise.imp (fun {a b} h => .inr ⟨rfl, ?_⟩) (List.Pairwise.filter _ List.pairwise_lt_range))
    show ((a : Nat) : Int) < (b : Int)
    omega
  · refine List.Pairwise.imp (fun {a b} h x hx y hy => .inl ?_) List.pairwise_lt_range
    obtain ⟨s, -, rfl⟩ := List.mem_map.1 hx
    obtain ⟨t, -, rfl⟩ := List.mem_map.1 hy
    show ((a : Nat) : Int) < (b : Int)
    omega
theorem dirT_iff {c s : Nat} : dirT L c s L.length = true ↔ (c, s) ∈ L := by
  unfold dirT
  rw [List.take_length, List.any_eq_true]
  constructor
  · rintro ⟨p, hp, h⟩
    simp at h
    obtain ⟨a, b⟩ := p
    simp at h
    obtain ⟨rfl, rfl⟩ := h
    exact hp
  · exact fun h => ⟨_, h, by simp⟩
theorem othT_iff (hL : ∀ p ∈ L, p.1 < N ∧ p.2 < N) {c s : Nat} : othT N L c s L.length = true ↔ ∃ t, (c, t) ∈ L ∧ t ≠ s ∧ Req L t s := by
  unfold othT
  rw [List.take_length, List.any_eq_true]
  constructor
  · rintro ⟨⟨a, b⟩, hp, h⟩
    simp at h
    obtain ⟨rfl, h2, h3⟩ := h
    exact ⟨b, hp, h2, (wmat_iff hL).1 h3⟩
  · rintro ⟨t, h1, h2, h3⟩
    refine ⟨_, h1, ?_⟩
    simp [h2, (wmat_iff hL).2 h3]
theorem rowOk_iff (hL : ∀ p ∈ L, p.1 < N ∧ p.2 < N) (ha : Acyc L) {c s : Nat} : rowOk N L c s = true ↔ (c, s) ∈ L ∧ indB N L c s = false := by
  unfold rowOk
  rw [Bool.and_eq_true, dirT_iff, Bool.not_eq_true', ← Bool.not_eq_true, othT_iff hL, ← Bool.not_eq_true (indB N L c s), indB_iff hL]
  constructor
  · rintro ⟨h1, h2⟩
    refine ⟨h1, fun ⟨t, h3, h4⟩ => h2 ⟨t, h3, fun e => ?_, h4⟩⟩
    subst e
    exact ha _ h4
  · rintro ⟨h1, h2⟩
    exact ⟨h1, fun ⟨t, h3, _, h4⟩ => h2 ⟨t, h3, h4⟩⟩
theorem mem_refTo (hL : ∀ p ∈ L, p.1 < N ∧ p.2 < N) (ha : Acyc L) {p : Int × Int} : p ∈ refTo N L N ↔ ∃ c s, c < N ∧ p = lnk c s ∧ (c, s) ∈ L ∧ indB N L c s = false := by
  unfold refTo rowT
  simp only [List.mem_flatMap, List.mem_range, List.mem_map, List.mem_filter]
  constructor
  · rintro ⟨c, hc, s, ⟨hs, h⟩, rfl⟩
    obtain ⟨h1, h2⟩ := (rowOk_iff hL ha).1 h
    exact ⟨c, s, hc, rfl, h1, h2⟩
  · rintro ⟨c, s, hc, rfl, h1, h2⟩
    exact ⟨c, hc, s, ⟨(hL _ h1).2, (rowOk_iff hL ha).2 ⟨h1, h2⟩⟩, rfl⟩
theorem ref_sorted (hL : ∀ p ∈ L, p.1 < N ∧ p.2 < N) (ha : Acyc L) (hn : L.Nodup) : refTo N L N = sortL (keptTo N L N) := by
  have hr := refTo_pair (N := N) (L := L) N
  have hrn : (refTo N L N).Nodup := List.Pairwise.imp (fun {a b} h e => by subst e; unfold LexL at h; omega) hr
  have hperm : (refTo N L N).Perm (keptTo N L N) := (List.perm_ext_iff_of_nodup hrn (keptTo_nodup hn N)).2 (fun p => by rw [mem_refTo hL ha, mem_keptTo])
  have hlen := hperm.length_eq
  have hs := sorted_unique_holds swoL antiL (keptTo N L N).toArray (refTo N L N).toArray ⟨by simpa using hlen, fun i hi => ?_, ?_⟩ ?_
  · unfold sortL
    simpa using hs
  · have h1 : (keptTo N L N).length ≤ i := by
      rcases hi with h | h
      · omega
      · simpa using h
    simp [h1, show (refTo N L N).length ≤ i by omega]
  · have h2 : (refTo N L N).toArray.extract 0 (keptTo N L N).toArray.size = (refTo N L N).toArray := by
      rw [List.size_toArray, ← hlen, ← List.size_toArray]
      exact Array.extract_size
    have h3 : (keptTo N L N).toArray.extract 0 (keptTo N L N).toArray.size = (keptTo N L N).toArray := Array.extract_size
    rw [h2, h3]
    exact hperm
  · intro i j _ hij hj
    have hj' : j < (keptTo N L N).length := by simpa using hj
    rw [ltL_false]
    have h1 := List.pairwise_iff_getElem.1 hr i j (by omega) (by omega) hij
    have h2 : (refTo N L N).toArray[i]! = (refTo N L N)[i]'(by omega) := by simp [show i < (refTo N L N).length by omega]
    have h3 : (refTo N L N).toArray[j]! = (refTo N L N)[j]'(by omega) := by simp [show j < (refTo N L N).length by omega]
    rw [h2, h3]
    unfold LexL at h1 ⊢
    omega
end
/-- What a graph without error gives. -/
theorem checkM_zero {n : Int} {l : List (Int × Int)} (h : checkM n l = 0) : ∃ N : Nat, n = (N : Int) ∧ N ≤ 128 ∧ (∀ p ∈ toNs l, p.1 < N ∧ p.2 < N) ∧ Acyc (toNs l) ∧ (toNs l).Nodup ∧ LinksOk n l ∧ l.Nodup := by
  have hbas : basicM n l = 0 := by
    apply Classical.byContradiction
    intro hb
    unfold checkM orderM at h
    rw [if_neg hb] at h
    exact hb h
  obtain ⟨hok, hnd⟩ := basicM_zero hbas
  obtain ⟨N, rfl⟩ := Int.eq_ofNat_of_zero_le hok.1
  have hlt := toNs_lt hok.2.2.2
  refine ⟨N, rfl, by have := hok.2.1; omega, hlt, ?_, toNs_nodup hok.2.2.2 hnd, hok, hnd⟩
  refine (greedy_full hlt).1 ?_
  apply Classical.byContradiction
  intro hf
  unfold checkM orderM at h
  rw [if_pos hbas, Int.toNat_natCast, if_neg hf] at h
  cases h
theorem rredM_eq (n : Int) (l : List (Int × Int)) : rredM n l = redM n l := by
  unfold rredM redM
  by_cases h : checkM n l = 0
  · rw [if_pos h, if_pos h]
    obtain ⟨N, rfl, -, hL, ha, hn, -, -⟩ := checkM_zero h
    rw [Int.toNat_natCast, ref_sorted hL ha hn]
  · rw [if_neg h, if_neg h]
end Go.Proofs.Ytnfhiadhpbojkaa

