/- The plain model of Reduce: what the program keeps, ahead of the sorting. -/
import Derived.Test.YtkbfnhkcmelneaaGraM9Mg
namespace Go.Proofs.Ytkbfnhkcmelneaa
section
variable (N : Nat) (L : List (Nat × Nat))
def beyTo (c j : Nat) : List Nat := ((nb false L c).take j).flatMap (nb false L)
def beyL (c : Nat) : List Nat := (nb false L c).flatMap (nb false L)
def indB (c s : Nat) : Bool := rchB N L (beyL L c) s
def lnk (c s : Nat) : Int × Int := ((c : Int), (s : Int))
def keptC (c : Nat) : List Nat := (nb false L c).filter fun s => !indB N L c s
def keptTo (k : Nat) : List (Int × Int) := (List.range k).flatMap fun c => (keptC N L c).map (lnk c)
end
section
variable {N : Nat} {L : List (Nat × Nat)}
theorem beyTo_all {c j : Nat} (h : (nb false L c).length ≤ j) : beyTo L c j = beyL L c := by unfold beyTo beyL; rw [List.take_of_length_le h]
theorem beyTo_step {c j s : Nat} (h : (nb false L c)[j]? = some s) : beyTo L c (j + 1) = beyTo L c j ++ nb false L s := by
  unfold beyTo
  rw [take_succ_some h, List.flatMap_append]
  simp
theorem flat_le {B : Nat} {f : Nat → List Nat} (hf : ∀ x, (f x).length ≤ B) : ∀ l : List Nat, (l.flatMap f).length ≤ l.length * B
  | [] => by simp
  | a :: l => by
    have h1 := flat_le hf l
    have h2 := hf a
    rw [List.flatMap_cons, List.length_append, List.length_cons, Nat.add_mul]
    omega
theorem beyTo_le (c j : Nat) (hL : L.length ≤ 60) : (beyTo L c j).length ≤ 3600 := by
  have h1 := flat_le (f := nb false L) (fun x => Nat.le_trans (nb_length_le false L x) hL) ((nb false L c).take j)
  have h2 : ((nb false L c).take j).length ≤ 60 := by
    rw [List.length_take]
    have := nb_length_le false L c
    omega
  have h3 : ((nb false L c).take j).length * 60 ≤ 60 * 60 := Nat.mul_le_mul_right 60 h2
  unfold beyTo
  omega
theorem keptTo_step (k : Nat) : keptTo N L (k + 1) = keptTo N L k ++ (keptC N L k).map (lnk k) := by
  unfold keptTo
  rw [List.range_succ, List.flatMap_append]
  simp
/-- Link (c, s) of the program's kept ones. -/
theorem mem_keptTo {k : Nat} {p : Int × Int} : p ∈ keptTo N L k ↔ ∃ c s, c < k ∧ p = lnk c s ∧ (c, s) ∈ L ∧ indB N L c s = false := by
  unfold keptTo keptC
  simp only [List.mem_flatMap, List.mem_range, List.mem_map, List.mem_filter, Bool.not_eq_true']
  constructor
  · rintro ⟨c, hc, s, ⟨hs, hi⟩, rfl⟩
    exact ⟨c, s, hc, rfl, by simpa using nb_mem.1 hs, hi⟩
  · rintro ⟨c, s, hc, rfl, hs, hi⟩
    exact ⟨c, hc, s, ⟨nb_mem.2 (by simpa using hs), hi⟩, rfl⟩
/-- A link is implied if another supplier of the same consumer requires its supplier. -/
theorem indB_iff (hL : ∀ p ∈ L, p.1 < N ∧ p.2 < N) {c s : Nat} : indB N L c s = true ↔ ∃ t, (c, t) ∈ L ∧ Req L t s := by
  unfold indB
  rw [rchB_iff hL]
  unfold Rch beyL
  constructor
  · rintro ⟨u, hu, h⟩
    obtain ⟨t, ht, htu⟩ := List.mem_flatMap.1 hu
    have h1 : (c, t) ∈ L := by simpa using nb_mem.1 ht
    have h2 : (t, u) ∈ L := by simpa using nb_mem.1 htu
    refine ⟨t, h1, ?_⟩
    rcases h with rfl | h
    · exact .one h2
    · exact .step h2 h
  · rintro ⟨t, ht, h⟩
    have hn : t ∈ nb false L c := nb_mem.2 (by simpa using ht)
    cases h with
    | one h2 => exact ⟨s, List.mem_flatMap.2 ⟨t, hn, nb_mem.2 (by simpa using h2)⟩, .inl rfl⟩
    | step h2 h3 => exact ⟨_, List.mem_flatMap.2 ⟨t, hn, nb_mem.2 (by simpa using h2)⟩, .inr h3⟩
end
end Go.Proofs.Ytkbfnhkcmelneaa

