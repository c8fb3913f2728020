/- The plain model of the walk to the smallest remaining suppliers. -/
import Derived.Test.YtdocdgghphhdpaaMgResumeDrives13
import Derived.Test.YtdocdgghphhdpaaMgResumeDrives0
namespace Go.Proofs.Ytdocdgghphhdpaa

/-- s is the smallest supplier of v that has not been taken. -/
def IsNext (L : List (Nat × Nat)) (o : List Nat) (v s : Nat) : Prop := (v, s) ∈ L ∧ s ∉ o ∧ ∀ p ∈ L, p.1 = v → p.2 ∉ o → s ≤ p.2
theorem IsNext.inj {L : List (Nat × Nat)} {o : List Nat} {v s t : Nat} (h : IsNext L o v s) (k : IsNext L o v t) : s = t := by
  have h1 := h.2.2 _ k.1 rfl k.2.1
  have h2 := k.2.2 _ h.1 rfl h.2.1
  simp only at h1 h2
  omega
/-- The smallest remaining supplier of v, or z. -/
def nxS (z : Int) (o : List Nat) (v : Nat) (x : Int) (p : Nat × Nat) : Int := if p.1 = v ∧ p.2 ∉ o ∧ (x = z ∨ (p.2 : Int) < x) then (p.2 : Int) else x
def nxI (z : Int) (L : List (Nat × Nat)) (o : List Nat) (v : Nat) : Int := L.foldl (nxS z o v) z
theorem nxI_snoc (z : Int) (L : List (Nat × Nat)) (o : List Nat) (v : Nat) (p : Nat × Nat) : nxI z (L ++ [p]) o v = nxS z o v (nxI z L o v) p := by simp [nxI]
theorem nxI_spec {z : Int} (hz : ∀ s : Nat, s < 1000 → (s : Int) ≠ z) {o : List Nat} {v : Nat} : ∀ (n : Nat) (L : List (Nat × Nat)), L.length = n → (∀ p ∈ L, p.2 < 1000) →
    (nxI z L o v = z ∧ ∀ p ∈ L, p.1 = v → p.2 ∈ o) ∨ ∃ s : Nat, nxI z L o v = s ∧ IsNext L o v s
  | 0, L, hn, _ => by
    have : L = [] := List.eq_nil_of_length_eq_zero hn
    subst this
    exact .inl ⟨rfl, by simp⟩
  | n + 1, L, hn, hs => by
    obtain ⟨K, p, rfl⟩ : ∃ K p, L = K ++ [p] := ⟨L.dropLast, L.getLast (by intro e; subst e; cases hn), (List.dropLast_concat_getLast _).symm⟩
    have ih := nxI_spec (o := o) (v := v) hz n K (by simp at hn; exact hn) (fun q hq => hs q (List.mem_append_left _ hq))
    have hp := hs p (by simp)
    rw [nxI_snoc]
    unfold nxS
    by_cases h1 : p.1 = v ∧ p.2 ∉ o
    · obtain ⟨h1, h2⟩ := h1
      rcases ih with ⟨e, hno⟩ | ⟨s, e, hs1, hs2, hs3⟩
      · rw [if_pos ⟨h1, h2, .inl e⟩]
        refine .inr ⟨p.2, rfl, by rw [← h1]; simp, h2, fun q hq e1 e2 => ?_⟩
        rcases List.mem_append.1 hq with h | h
        · exact absurd (hno q h e1) e2
        · rw [List.mem_singleton.1 h]; exact Nat.le_refl _
      · have hsz : (s : Int) ≠ z := hz s (hs _ (List.mem_append_left _ hs1))
        by_cases h3 : (p.2 : Int) < nxI z K o v
        · rw [if_pos ⟨h1, h2, .inr h3⟩]
          refine .inr ⟨p.2, rfl, by rw [← h1]; simp, h2, fun q hq e1 e2 => ?_⟩
          rcases List.mem_append.1 hq with h | h
          · have := hs3 q h e1 e2; omega
          · rw [List.mem_singleton.1 h]; exact Nat.le_refl _
        · rw [if_neg (by rintro ⟨_, _, h | h⟩; omega; exact h3 h)]
          refine .inr ⟨s, e, List.mem_append_left _ hs1, hs2, fun q hq e1 e2 => ?_⟩
          rcases List.mem_append.1 hq with h | h
          · exact hs3 q h e1 e2
          · rw [List.mem_singleton.1 h]; omega
    · rw [if_neg (fun h => h1 ⟨h.1, h.2.1⟩)]
      have hno1 : p.1 = v → p.2 ∈ o := fun e => Classical.byContradiction (fun h => h1 ⟨e, h⟩)
      rcases ih with ⟨e, hno⟩ | ⟨s, e, hs1, hs2, hs3⟩
      · refine .inl ⟨e, fun q hq e1 => ?_⟩
        rcases List.mem_append.1 hq with h | h
        · exact hno q h e1
        · rw [List.mem_singleton.1 h] at e1 ⊢; exact hno1 e1
      · refine .inr ⟨s, e, List.mem_append_left _ hs1, hs2, fun q hq e1 e2 => ?_⟩
        rcases List.mem_append.1 hq with h | h
        · exact hs3 q h e1 e2
        · rw [List.mem_singleton.1 h] at e1 e2; exact absurd (hno1 e1) e2
def nx (L : List (Nat × Nat)) (o : List Nat) (v : Nat) : Nat := (nxI (-1) L o v).toNat
theorem nx_next {n : Nat} {L : List (Nat × Nat)} (hn : n ≤ 128) (hL : ∀ p ∈ L, p.1 < n ∧ p.2 < n) {v : Nat} (hv : v < n) (hg : v ∉ greedy n L) :
    nxI (-1) L (greedy n L) v = (nx L (greedy n L) v : Int) ∧ IsNext L (greedy n L) v (nx L (greedy n L) v) ∧ nx L (greedy n L) v < n ∧ nx L (greedy n L) v ∉ greedy n L := by
  obtain ⟨u, hu, hun, huL⟩ := greedy_left hL hv hg
  rcases nxI_spec (z := -1) (o := greedy n L) (v := v) (fun s _ => by omega) L.length L rfl (fun p hp => by have := hL p hp; omega) with ⟨e, hno⟩ | ⟨s, e, hs⟩
  · exact absurd (hno _ huL rfl) hun
  · have : nx L (greedy n L) v = s := by unfold nx; rw [e]; rfl
    rw [this]
    exact ⟨e, hs, (hL _ hs.1).2, hs.2.1⟩
theorem nx_other {n : Nat} {L : List (Nat × Nat)} (hn : n ≤ 128) (hL : ∀ p ∈ L, p.1 < n ∧ p.2 < n) {v : Nat} (hv : v < n) (hg : v ∉ greedy n L) :
    nxI (n : Int) L (greedy n L) v = (nx L (greedy n L) v : Int) := by
  obtain ⟨u, hu, hun, huL⟩ := greedy_left hL hv hg
  have h1 := (nx_next hn hL hv hg).2.1
  have hlt : ∀ s, IsNext L (greedy n L) v s → s < n := fun s hs => (hL _ hs.1).2
  -- the fold with n in the place of -1: a number of suppliers below n
  have hz : ∀ K : List (Nat × Nat), (∀ p ∈ K, p.2 < n) → (nxI (n : Int) K (greedy n L) v = n ∧ nxI (-1) K (greedy n L) v = -1) ∨ (nxI (n : Int) K (greedy n L) v = nxI (-1) K (greedy n L) v ∧ 0 ≤ nxI (-1) K (greedy n L) v ∧ nxI (-1) K (greedy n L) v < n) := by
    intro K
    have : ∀ (m : Nat) (K : List (Nat × Nat)), K.length = m → (∀ p ∈ K, p.2 < n) → (nxI (n : Int) K (greedy n L) v = n ∧ nxI (-1) K (greedy n L) v = -1) ∨ (nxI (n : Int) K (greedy n L) v = nxI (-1) K (greedy n L) v ∧ 0 ≤ nxI (-1) K (greedy n L) v ∧ nxI (-1) K (greedy n L) v < n) := by
      intro m
      induction m with
      | zero =>
        intro K hm _
        have : K = [] := List.eq_nil_of_length_eq_zero hm
        subst this
        exact .inl ⟨rfl, rfl⟩
      | succ m ih =>
        intro K hm hs
        obtain ⟨J, p, rfl⟩ : ∃ J p, K = J ++ [p] := ⟨K.dropLast, K.getLast (by intro e; subst e; cases hm), (List.dropLast_concat_getLast _).symm⟩
        have ih' := ih J (by simp at hm; exact hm) (fun q hq => hs q (List.mem_append_left _ hq))
        have hp := hs p (by simp)
        rw [nxI_snoc, nxI_snoc]
        unfold nxS
        by_cases h1 : p.1 = v ∧ p.2 ∉ greedy n L
        · rcases ih' with ⟨e1, e2⟩ | ⟨e1, e2, e3⟩
          · rw [e1, e2]
            simp [h1]
            omega
          · rw [e1]
            by_cases h3 : (p.2 : Int) < nxI (-1) J (greedy n L) v
            · simp [h1, h3]
              omega
            · simp [h1, h3]
              have a1 : ¬ nxI (-1) J (greedy n L) v = n := by omega
              have a2 : ¬ nxI (-1) J (greedy n L) v = -1 := by omega
              simp [a1, a2]
              omega
        · rw [if_neg (fun h => h1 ⟨h.1, h.2.1⟩), if_neg (fun h => h1 ⟨h.1, h.2.1⟩)]
          exact ih'
    exact this K.length K rfl
  rcases hz L (fun p hp => (hL p hp).2) with ⟨_, e⟩ | ⟨e, h2, _⟩
  · have := (nx_next hn hL hv hg).1
    omega
  · rw [e]
    exact (nx_next hn hL hv hg).1

/-- The walk till a node comes again. -/
def cycF (f : Nat → Nat) : Nat → List Nat → Nat → List Nat
  | 0, _, _ => []
  | k + 1, wk, v => if v ∈ wk then wk.drop (wk.idxOf v) else cycF f k (wk ++ [v]) (f v)
/-- The first node that is left. -/
def firstLeft (n : Nat) (o : List Nat) : Option Nat := (List.range n).find? fun v => decide (v ∉ o)
theorem firstLeft_some {n : Nat} {o : List Nat} {v : Nat} : firstLeft n o = some v ↔ v < n ∧ v ∉ o ∧ ∀ u, u < v → u ∈ o := by
  unfold firstLeft
  rw [List.find?_range_eq_some]
  simp only [decide_eq_true_eq, List.mem_range, Bool.not_eq_true', decide_eq_false_iff_not, Classical.not_not]
  constructor
  · rintro ⟨h1, h2, h3⟩
    exact ⟨h2, h1, h3⟩
  · rintro ⟨h1, h2, h3⟩
    exact ⟨h2, h1, h3⟩
theorem firstLeft_none {n : Nat} {o : List Nat} : firstLeft n o = none ↔ ∀ v, v < n → v ∈ o := by
  unfold firstLeft
  rw [List.find?_range_eq_none]
  simp
def cycleM (n : Int) (l : List (Int × Int)) : List Nat × Int :=
  if basicM n l = 0 then
    (match firstLeft n.toNat (greedy n.toNat (toNs l)) with
    | none => ([], 6)
    | some v => (cycF (nx (toNs l) (greedy n.toNat (toNs l))) (n.toNat + 1) [] v, 0))
  else ([], basicM n l)
theorem cycleM_bad {n : Int} {l : List (Int × Int)} (hb : ¬ basicM n l = 0) : cycleM n l = ([], basicM n l) := by
  unfold cycleM
  rw [if_neg hb]
theorem cycleM_none {N : Nat} {l : List (Int × Int)} (hb : basicM (N : Int) l = 0) (h : firstLeft N (greedy N (toNs l)) = none) : cycleM (N : Int) l = ([], 6) := by
  unfold cycleM
  rw [if_pos hb, Int.toNat_natCast, h]
theorem cycleM_some {N : Nat} {l : List (Int × Int)} {v : Nat} (hb : basicM (N : Int) l = 0) (h : firstLeft N (greedy N (toNs l)) = some v) : cycleM (N : Int) l = (cycF (nx (toNs l) (greedy N (toNs l))) (N + 1) [] v, 0) := by
  unfold cycleM
  rw [if_pos hb, Int.toNat_natCast, h]
end Go.Proofs.Ytdocdgghphhdpaa

/- The plain model of levels. -/
namespace Go.Proofs.Ytdocdgghphhdpaa
open Go.RowKit

def levS (v : Nat) (f : Nat → Nat) (s : Nat) : Nat → Nat := fun u => if u = v then max (f v) (f s + 1) else f u
def levV (L : List (Nat × Nat)) (f : Nat → Nat) (v : Nat) : Nat → Nat := (nb false L v).foldl (levS v) f
def levs (L : List (Nat × Nat)) (o : List Nat) : Nat → Nat := o.foldl (levV L) (fun _ => 0)
def levP (v : Nat) (f : Nat → Nat) (p : Nat × Nat) : Nat → Nat := if p.1 = v then levS v f p.2 else f
theorem levV_links (L : List (Nat × Nat)) (f : Nat → Nat) (v : Nat) : L.foldl (levP v) f = levV L f v := by
  unfold levV nb
  induction L generalizing f with
  | nil => rfl
  | cons p L ih =>
    by_cases h : p.1 = v
    · simp [ends, h, levP] at ih ⊢
      exact ih _
    · simp [ends, h, levP] at ih ⊢
      exact ih _
theorem levS_le {v s b : Nat} {f : Nat → Nat} (h : ∀ u, f u ≤ b) : ∀ u, levS v f s u ≤ b + 1 := fun u => by
  unfold levS
  have h1 := h v
  have h2 := h s
  have h3 := h u
  split <;> omega
theorem fold_le {v b : Nat} : ∀ (C : List Nat) (f : Nat → Nat), (∀ u, f u ≤ b) → ∀ u, C.foldl (levS v) f u ≤ b + C.length
  | [], f, h => by simpa using h
  | c :: C, f, h => fun u => by
    have := fold_le (v := v) (b := b + 1) C (levS v f c) (levS_le h) u
    simp
    omega
theorem levs_le {L : List (Nat × Nat)} (hL : L.length ≤ 1024) : ∀ (o : List Nat) (f : Nat → Nat) (b : Nat), (∀ u, f u ≤ b) → ∀ u, o.foldl (levV L) f u ≤ b + o.length * 1024
  | [], f, b, h => by simpa using h
  | c :: C, f, b, h => fun u => by
    have h1 : ∀ u, levV L f c u ≤ b + 1024 := fun u => by
      have := fold_le (v := c) (nb false L c) f h u
      have h2 := nb_length_le false L c
      unfold levV
      omega
    have := levs_le hL C (levV L f c) (b + 1024) h1 u
    simp
    omega
theorem levs_bound {L : List (Nat × Nat)} (hL : L.length ≤ 1024) {o : List Nat} (ho : o.length ≤ 128) (u : Nat) : levs L o u ≤ 131072 := by
  have := levs_le hL o (fun _ => 0) 0 (fun _ => Nat.le_refl _) u
  unfold levs
  omega
theorem levs_snoc (L : List (Nat × Nat)) (o : List Nat) (v : Nat) : levs L (o ++ [v]) = levV L (levs L o) v := by simp [levs]

theorem FA.own {α : Type} {w : World} {g n base : Nat} {t : TypeId} {e : α → Value} {f : Nat → α} (h : FA w g t e n f) (hb : base ≤ g) (hn : n ≤ maxLen) :
    w.ownsRow base t 1 (.slice (some ⟨g, 0, none⟩) n n) n (((List.range n).map f).map e) :=
  ⟨by simp, .inr ⟨g, n, _, rfl, hb, h, Nat.le_refl _, hn, by simp, List.take_of_length_le (by simp)⟩⟩
end Go.Proofs.Ytdocdgghphhdpaa

