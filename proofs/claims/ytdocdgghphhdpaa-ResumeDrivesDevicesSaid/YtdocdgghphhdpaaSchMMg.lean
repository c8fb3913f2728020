/- The plain model of list scheduling: slots in the order in which the devices start, and the time. No program is in sight here. -/
import Derived.Test.YtdocdgghphhdpaaMgResumeDrives13
namespace Go.Proofs.Ytdocdgghphhdpaa

theorem snoc_ind {α : Type} {P : List α → Prop} (nil : P []) (snoc : ∀ l x, P l → P (l ++ [x])) (l : List α) : P l := by
  have : ∀ m : List α, P m.reverse := fun m => by
    induction m with
    | nil => exact nil
    | cons x m ih => rw [List.reverse_cons]; exact snoc _ _ ih
  have h := this l.reverse
  rwa [List.reverse_reverse] at h

structure Slt where
  d : Nat
  w : Nat
  s : Nat
  e : Nat
deriving DecidableEq

def started (sl : List Slt) (d : Nat) : Bool := sl.any fun x => x.d == d
def endedB (sl : List Slt) (now d : Nat) : Bool := sl.any fun x => x.d == d && decide (x.e ≤ now)
def endOf (sl : List Slt) (d : Nat) : Nat := sl.foldl (fun b x => if x.d = d then x.e else b) 0
def busyOf (sl : List Slt) (w : Nat) : Nat := sl.foldl (fun b x => if x.w = w then x.e else b) 0
theorem started_iff {sl : List Slt} {d : Nat} : started sl d = true ↔ ∃ x ∈ sl, x.d = d := by simp [started]
theorem ended_iff {sl : List Slt} {now d : Nat} : endedB sl now d = true ↔ ∃ x ∈ sl, x.d = d ∧ x.e ≤ now := by simp [endedB]

structure St where
  sl : List Slt
  now : Nat

/-- A device that can start. -/
def rdyB (L : List (Nat × Nat)) (p : St) (d : Nat) : Bool := !started p.sl d && L.all fun q => q.1 != d || endedB p.sl p.now q.2
def freB (p : St) (w : Nat) : Bool := p.sl.all fun x => x.w != w || decide (x.e ≤ p.now)
def rdy (N : Nat) (L : List (Nat × Nat)) (p : St) : Option Nat := (List.range N).find? (rdyB L p)
def fre (W : Nat) (p : St) : Option Nat := (List.range W).find? (freB p)
def nxt (p : St) : Option Nat := ((p.sl.map Slt.e).filter fun t => decide (p.now < t)).min?
theorem rdyB_iff {L : List (Nat × Nat)} {p : St} {d : Nat} : rdyB L p d = true ↔ (∀ x ∈ p.sl, x.d ≠ d) ∧ ∀ q ∈ L, q.1 = d → ∃ x ∈ p.sl, x.d = q.2 ∧ x.e ≤ p.now := by
  unfold rdyB
  rw [Bool.and_eq_true, Bool.not_eq_true', List.all_eq_true]
  refine and_congr ?_ ?_
  · rw [← Bool.not_eq_true, started_iff]
    exact ⟨fun h x hx e => h ⟨x, hx, e⟩, fun h ⟨x, hx, e⟩ => h x hx e⟩
  · refine forall_congr' fun q => forall_congr' fun _ => ?_
    rw [Bool.or_eq_true, ended_iff, bne_iff_ne]
    exact ⟨fun h e => h.resolve_left (fun h' => h' e), fun h => by
      by_cases e : q.1 = d
      · exact .inr (h e)
      · exact .inl e⟩
theorem freB_iff {p : St} {w : Nat} : freB p w = true ↔ ∀ x ∈ p.sl, x.w = w → x.e ≤ p.now := by
  unfold freB
  rw [List.all_eq_true]
  refine forall_congr' fun x => forall_congr' fun _ => ?_
  rw [Bool.or_eq_true, bne_iff_ne, decide_eq_true_eq]
  exact ⟨fun h e => h.resolve_left (fun h' => h' e), fun h => by
    by_cases e : x.w = w
    · exact .inr (h e)
    · exact .inl e⟩
theorem nxt_some {p : St} {t : Nat} : nxt p = some t ↔ (∃ x ∈ p.sl, x.e = t ∧ p.now < t) ∧ ∀ x ∈ p.sl, p.now < x.e → t ≤ x.e := by
  unfold nxt
  rw [List.min?_eq_some_iff]
  simp only [List.mem_filter, List.mem_map, decide_eq_true_eq]
  constructor
  · rintro ⟨⟨⟨x, hx, rfl⟩, h1⟩, h2⟩
    exact ⟨⟨x, hx, rfl, h1⟩, fun y hy h => h2 _ ⟨⟨y, hy, rfl⟩, h⟩⟩
  · rintro ⟨⟨x, hx, rfl, h1⟩, h2⟩
    refine ⟨⟨⟨x, hx, rfl⟩, h1⟩, ?_⟩
    rintro b ⟨⟨y, hy, rfl⟩, h⟩
    exact h2 y hy h
theorem nxt_none {p : St} : nxt p = none ↔ ∀ x ∈ p.sl, x.e ≤ p.now := by
  unfold nxt
  rw [List.min?_eq_none_iff, List.filter_eq_nil_iff]
  simp only [List.mem_map, decide_eq_true_eq]
  constructor
  · intro h x hx
    have := h x.e ⟨x, hx, rfl⟩
    omega
  · rintro h a ⟨x, hx, rfl⟩
    have := h x hx
    omega

section
variable (N : Nat) (L : List (Nat × Nat)) (D : Nat → Nat) (W : Nat)
def beginS (p : St) (d w : Nat) : St := ⟨p.sl ++ [⟨d, w, p.now, p.now + D d⟩], p.now⟩
def stepS (p : St) : Option St :=
  match rdy N L p, fre W p with
  | some d, some w => some (beginS D p d w)
  | _, _ => (nxt p).map fun t => ⟨p.sl, t⟩
inductive RchS : St → Prop
  | init : RchS ⟨[], 0⟩
  | step {p q : St} (h : RchS p) (k : stepS N L D W p = some q) : RchS q
def iterS : Nat → St
  | 0 => ⟨[], 0⟩
  | k + 1 => (stepS N L D W (iterS k)).getD (iterS k)
def tot (sl : List Slt) : Nat := (sl.map fun x => D x.d).sum
structure InvS (p : St) : Prop where
  lt : ∀ x ∈ p.sl, x.d < N ∧ x.w < W
  nodup : (p.sl.map Slt.d).Nodup
  time : ∀ x ∈ p.sl, x.e = x.s + D x.d ∧ x.s ≤ p.now
  order : p.sl.Pairwise fun x y => x.s ≤ y.s
  worker : p.sl.Pairwise fun x y => x.w = y.w → x.e ≤ y.s
  deps : ∀ x ∈ p.sl, ∀ q ∈ L, q.1 = x.d → ∃ y ∈ p.sl, y.d = q.2 ∧ y.e ≤ x.s
  begins : ∀ x ∈ p.sl, x.s = 0 ∨ ∃ y ∈ p.sl, y.e = x.s
  at_ : p.now = 0 ∨ ∃ y ∈ p.sl, y.e = p.now
  bound : p.now ≤ tot D p.sl ∧ ∀ x ∈ p.sl, x.e ≤ tot D p.sl
  full : ∀ u, u < p.now → ∀ d, d < N → (∀ x ∈ p.sl, x.d = d → u < x.s) → (∀ q ∈ L, q.1 = d → ∃ y ∈ p.sl, y.d = q.2 ∧ y.e ≤ u) → ∀ w, w < W → ∃ x ∈ p.sl, x.w = w ∧ x.s ≤ u ∧ u < x.e
end

section
variable {N : Nat} {L : List (Nat × Nat)} {D : Nat → Nat} {W : Nat}
theorem rdy_some {p : St} {d : Nat} : rdy N L p = some d ↔ d < N ∧ rdyB L p d = true ∧ ∀ u, u < d → rdyB L p u = false := by
  unfold rdy
  rw [List.find?_range_eq_some]
  simp only [List.mem_range, Bool.not_eq_true']
  exact ⟨fun ⟨a, b, c⟩ => ⟨b, a, c⟩, fun ⟨a, b, c⟩ => ⟨b, a, c⟩⟩
theorem rdy_none {p : St} : rdy N L p = none ↔ ∀ u, u < N → rdyB L p u = false := by
  unfold rdy
  rw [List.find?_range_eq_none]
  simp
theorem fre_some {p : St} {w : Nat} : fre W p = some w ↔ w < W ∧ freB p w = true ∧ ∀ u, u < w → freB p u = false := by
  unfold fre
  rw [List.find?_range_eq_some]
  simp only [List.mem_range, Bool.not_eq_true']
  exact ⟨fun ⟨a, b, c⟩ => ⟨b, a, c⟩, fun ⟨a, b, c⟩ => ⟨b, a, c⟩⟩
theorem fre_none {p : St} : fre W p = none ↔ ∀ u, u < W → freB p u = false := by
  unfold fre
  rw [List.find?_range_eq_none]
  simp
/-- A step: a device starts, or the time goes on. -/
theorem step_cases {p q : St} (h : stepS N L D W p = some q) :
    (∃ d w, rdy N L p = some d ∧ fre W p = some w ∧ q = beginS D p d w) ∨ ((rdy N L p = none ∨ fre W p = none) ∧ ∃ t, nxt p = some t ∧ q = ⟨p.sl, t⟩) := by
  unfold stepS at h
  cases h1 : rdy N L p with
  | none =>
    rw [h1] at h
    simp only [Option.map_eq_some_iff] at h
    obtain ⟨t, ht, rfl⟩ := h
    exact .inr ⟨.inl rfl, t, ht, rfl⟩
  | some d =>
    cases h2 : fre W p with
    | none =>
      rw [h1, h2] at h
      simp only [Option.map_eq_some_iff] at h
      obtain ⟨t, ht, rfl⟩ := h
      exact .inr ⟨.inr rfl, t, ht, rfl⟩
    | some w =>
      rw [h1, h2] at h
      injection h with h
      exact .inl ⟨d, w, rfl, rfl, h.symm⟩
theorem step_none {p : St} (h : stepS N L D W p = none) : (rdy N L p = none ∨ fre W p = none) ∧ nxt p = none := by
  unfold stepS at h
  cases h1 : rdy N L p with
  | none =>
    rw [h1] at h
    exact ⟨.inl rfl, by simpa using h⟩
  | some d =>
    cases h2 : fre W p with
    | none =>
      rw [h1, h2] at h
      exact ⟨.inr rfl, by simpa using h⟩
    | some w =>
      rw [h1, h2] at h
      cases h
theorem step_begin {p : St} {d w : Nat} (h1 : rdy N L p = some d) (h2 : fre W p = some w) : stepS N L D W p = some (beginS D p d w) := by
  unfold stepS
  rw [h1, h2]
theorem step_next {p : St} {t : Nat} (h1 : rdy N L p = none ∨ fre W p = none) (h2 : nxt p = some t) : stepS N L D W p = some ⟨p.sl, t⟩ := by
  unfold stepS
  rcases h1 with h1 | h1
  · rw [h1, h2]; rfl
  · rw [h1, h2]
    cases rdy N L p <;> rfl
theorem step_stop {p : St} (h1 : rdy N L p = none ∨ fre W p = none) (h2 : nxt p = none) : stepS N L D W p = none := by
  unfold stepS
  rcases h1 with h1 | h1
  · rw [h1, h2]; rfl
  · rw [h1, h2]
    cases rdy N L p <;> rfl
theorem tot_snoc (sl : List Slt) (x : Slt) : tot D (sl ++ [x]) = tot D sl + D x.d := by simp [tot]
theorem inv_init : InvS N L D W ⟨[], 0⟩ := ⟨by simp, by simp, by simp, by simp, by simp, by simp, by simp, .inl rfl, by simp, fun u hu => by simp at hu⟩
theorem inv_begin {p : St} (h : InvS N L D W p) {d w : Nat} (h1 : rdy N L p = some d) (h2 : fre W p = some w) : InvS N L D W (beginS D p d w) := by
  obtain ⟨hd, hr, -⟩ := rdy_some.1 h1
  obtain ⟨hw, hf, -⟩ := fre_some.1 h2
  obtain ⟨hr1, hr2⟩ := rdyB_iff.1 hr
  have hf' := freB_iff.1 hf
  unfold beginS
  have hmem : ∀ {x : Slt}, x ∈ p.sl ++ [⟨d, w, p.now, p.now + D d⟩] ↔ x ∈ p.sl ∨ x = ⟨d, w, p.now, p.now + D d⟩ := by simp
  constructor
  · intro x hx
    rcases hmem.1 hx with hx | rfl
    · exact h.lt x hx
    · exact ⟨hd, hw⟩
  · rw [List.map_append, List.nodup_append]
    refine ⟨h.nodup, by simp, fun a ha b hb => ?_⟩
    simp at hb
    subst hb
    obtain ⟨x, hx, rfl⟩ := List.mem_map.1 ha
    exact hr1 x hx
  · intro x hx
    rcases hmem.1 hx with hx | rfl
    · exact h.time x hx
    · exact ⟨rfl, Nat.le_refl _⟩
  · rw [List.pairwise_append]
    refine ⟨h.order, by simp, fun x hx y hy => ?_⟩
    simp at hy
    subst hy
    exact (h.time x hx).2
  · rw [List.pairwise_append]
    refine ⟨h.worker, by simp, fun x hx y hy e => ?_⟩
    simp at hy
    subst hy
    exact hf' x hx e
  · intro x hx q hq e
    rcases hmem.1 hx with hx | rfl
    · obtain ⟨y, hy, h3⟩ := h.deps x hx q hq e
      exact ⟨y, hmem.2 (.inl hy), h3⟩
    · obtain ⟨y, hy, h3⟩ := hr2 q hq e
      exact ⟨y, hmem.2 (.inl hy), h3⟩
  · intro x hx
    rcases hmem.1 hx with hx | rfl
    · rcases h.begins x hx with h3 | ⟨y, hy, h3⟩
      · exact .inl h3
      · exact .inr ⟨y, hmem.2 (.inl hy), h3⟩
    · rcases h.at_ with h3 | ⟨y, hy, h3⟩
      · exact .inl h3
      · exact .inr ⟨y, hmem.2 (.inl hy), h3⟩
  · rcases h.at_ with h3 | ⟨y, hy, h3⟩
    · exact .inl h3
    · exact .inr ⟨y, hmem.2 (.inl hy), h3⟩
  · rw [tot_snoc]
    have hb := h.bound
    refine ⟨by simp only; omega, fun x hx => ?_⟩
    rcases hmem.1 hx with hx | rfl
    · have := hb.2 x hx
      omega
    · simp only; omega
  · intro u hu d' hd' hn hs w' hw'
    simp only at hu
    obtain ⟨x, hx, h3⟩ := h.full u hu d' hd' (fun x hx => hn x (hmem.2 (.inl hx))) (fun q hq e => by
      obtain ⟨y, hy, h3, h4⟩ := hs q hq e
      rcases hmem.1 hy with hy | rfl
      · exact ⟨y, hy, h3, h4⟩
      · simp only at h4; omega) w' hw'
    exact ⟨x, hmem.2 (.inl hx), h3⟩
theorem inv_next {p : St} (h : InvS N L D W p) (h1 : rdy N L p = none ∨ fre W p = none) {t : Nat} (h2 : nxt p = some t) : InvS N L D W ⟨p.sl, t⟩ := by
  obtain ⟨⟨z, hz, hzt, hlt⟩, hmin⟩ := nxt_some.1 h2
  refine ⟨h.lt, h.nodup, fun x hx => ⟨(h.time x hx).1, by have := (h.time x hx).2; simp only; omega⟩, h.order, h.worker, h.deps, h.begins, .inr ⟨z, hz, hzt⟩, ⟨by have := h.bound.2 z hz; simp only; omega, h.bound.2⟩, fun u hu d hd hn hs w hw => ?_⟩
  simp only at hu hn hs ⊢
  by_cases hun : u < p.now
  · exact h.full u hun d hd hn hs w hw
  · have hready : rdyB L p d = true := rdyB_iff.2 ⟨fun x hx e => by
      have h3 := hn x hx e
      have h4 := (h.time x hx).2
      omega, fun q hq e => by
      obtain ⟨y, hy, h3, h4⟩ := hs q hq e
      refine ⟨y, hy, h3, ?_⟩
      apply Classical.byContradiction
      intro h5
      have := hmin y hy (by omega)
      omega⟩
    have hfn : fre W p = none := by
      rcases h1 with h1 | h1
      · rw [rdy_none.1 h1 d hd] at hready
        cases hready
      · exact h1
    have hb := fre_none.1 hfn w hw
    have hnot : ¬ ∀ x ∈ p.sl, x.w = w → x.e ≤ p.now := fun h' => by
      rw [freB_iff.2 h'] at hb
      cases hb
    have hex : ∃ x ∈ p.sl, x.w = w ∧ p.now < x.e := by
      apply Classical.byContradiction
      intro hno
      refine hnot fun x hx e => ?_
      apply Classical.byContradiction
      intro h5
      exact hno ⟨x, hx, e, by omega⟩
    obtain ⟨x, hx, e, h5⟩ := hex
    have h6 := hmin x hx h5
    have h7 := (h.time x hx).2
    exact ⟨x, hx, e, by omega, by omega⟩
theorem inv_step {p q : St} (h : InvS N L D W p) (k : stepS N L D W p = some q) : InvS N L D W q := by
  rcases step_cases k with ⟨d, w, h1, h2, rfl⟩ | ⟨h1, t, h2, rfl⟩
  · exact inv_begin h h1 h2
  · exact inv_next h h1 h2
theorem RchS.inv {p : St} (h : RchS N L D W p) : InvS N L D W p := by
  induction h with
  | init => exact inv_init
  | step _ k ih => exact inv_step ih k
theorem InvS.len {p : St} (h : InvS N L D W p) : p.sl.length ≤ N := by
  have := nodup_length_le (n := N) (o := p.sl.map Slt.d) (fun v hv => by
    obtain ⟨x, hx, rfl⟩ := List.mem_map.1 hv
    exact (h.lt x hx).1) h.nodup
  simpa using this
/-- What is left to do: it falls with each step. -/
def measS (N : Nat) (p : St) : Nat := 2 * (N - p.sl.length) + (p.sl.filter fun x => decide (p.now < x.e)).length
theorem filter_lt_of {α : Type} {f g : α → Bool} {l : List α} (h : ∀ x ∈ l, g x = true → f x = true) {a : α} (ha : a ∈ l) (h1 : f a = true) (h2 : g a = false) : (l.filter g).length < (l.filter f).length := by
  induction l with
  | nil => cases ha
  | cons b l ih =>
    have hle : (l.filter g).length ≤ (l.filter f).length := by
      have hsub : (l.filter g).length = ((l.filter f).filter g).length := by
        rw [List.filter_filter]
        congr 1
        refine List.filter_congr fun x hx => ?_
        have := h x (List.mem_cons_of_mem _ hx)
        cases hg : g x
        · simp
        · rw [this hg]; rfl
      rw [hsub]
      exact List.length_filter_le _ _
    rcases List.mem_cons.1 ha with rfl | ha'
    · simp [List.filter_cons, h1, h2]
      omega
    · have := ih (fun x hx => h x (List.mem_cons_of_mem _ hx)) ha'
      have hb := h b (List.mem_cons_self ..)
      cases hg : g b
      · cases hf : f b <;> simp [List.filter_cons, hg, hf] <;> omega
      · simp [List.filter_cons, hg, hb hg]
        omega
theorem meas_next {p : St} {t : Nat} (h : nxt p = some t) : measS N ⟨p.sl, t⟩ < measS N p := by
  obtain ⟨⟨z, hz, hzt, hlt⟩, hmin⟩ := nxt_some.1 h
  unfold measS
  have := filter_lt_of (f := fun x : Slt => decide (p.now < x.e)) (g := fun x => decide (t < x.e)) (l := p.sl) (fun x _ hx => by simp at hx ⊢; omega) hz (by simp; omega) (by simp; omega)
  simp only
  omega
theorem meas_begin {p : St} {d w : Nat} (hl : p.sl.length < N) : measS N (beginS D p d w) < measS N p := by
  unfold measS beginS
  rw [List.filter_append, List.length_append, List.length_append]
  have := List.length_filter_le (fun x : Slt => decide (p.now < x.e)) [⟨d, w, p.now, p.now + D d⟩]
  simp only [List.length_singleton] at this ⊢
  omega
theorem begin_len {p : St} (h : InvS N L D W p) {d w : Nat} (h1 : rdy N L p = some d) (h2 : fre W p = some w) : p.sl.length < N := by
  have := (inv_begin h h1 h2).len
  simp [beginS] at this
  omega
theorem meas_step {p q : St} (h : InvS N L D W p) (k : stepS N L D W p = some q) : measS N q < measS N p := by
  rcases step_cases k with ⟨d, w, h1, h2, rfl⟩ | ⟨h1, t, h2, rfl⟩
  · exact meas_begin (begin_len h h1 h2)
  · exact meas_next h2
theorem iter_rch : ∀ k, RchS N L D W (iterS N L D W k)
  | 0 => .init
  | k + 1 => by
    unfold iterS
    cases h : stepS N L D W (iterS N L D W k) with
    | none => exact iter_rch k
    | some q => exact .step (iter_rch k) h
theorem iter_meas : ∀ k, stepS N L D W (iterS N L D W k) = none ∨ measS N (iterS N L D W k) + k ≤ 2 * N
  | 0 => .inr (by simp [measS, iterS])
  | k + 1 => by
    have ih := iter_meas k
    cases h : stepS N L D W (iterS N L D W k) with
    | none => exact .inl (by unfold iterS; rw [h]; exact h)
    | some q =>
      have hq : iterS N L D W (k + 1) = q := by
        show (stepS N L D W (iterS N L D W k)).getD _ = q
        rw [h]
        rfl
      rw [hq]
      have := meas_step (iter_rch k).inv h
      rcases ih with ih | ih
      · rw [h] at ih; cases ih
      · exact .inr (by omega)
/-- The state in which the scheduling ends. -/
def finS (N : Nat) (L : List (Nat × Nat)) (D : Nat → Nat) (W : Nat) : St := iterS N L D W (2 * N + 1)
theorem fin_stop : stepS N L D W (finS N L D W) = none := by
  rcases iter_meas (N := N) (L := L) (D := D) (W := W) (2 * N + 1) with h | h
  · exact h
  · omega
theorem fin_rch : RchS N L D W (finS N L D W) := iter_rch _
theorem rch_iter {p : St} (h : RchS N L D W p) : ∃ k, iterS N L D W k = p := by
  induction h with
  | init => exact ⟨0, rfl⟩
  | step _ k ih =>
    obtain ⟨i, hi⟩ := ih
    exact ⟨i + 1, by unfold iterS; rw [hi, k]; rfl⟩
theorem iter_stop {k : Nat} (h : stepS N L D W (iterS N L D W k) = none) : ∀ j, iterS N L D W (k + j) = iterS N L D W k
  | 0 => rfl
  | j + 1 => by
    show (stepS N L D W (iterS N L D W (k + j))).getD _ = _
    rw [iter_stop h j, h]
    exact iter_stop h j
theorem rch_fin {p : St} (h : RchS N L D W p) (hs : stepS N L D W p = none) : p = finS N L D W := by
  obtain ⟨k, rfl⟩ := rch_iter h
  rcases Nat.le_total k (2 * N + 1) with hle | hle
  · have := iter_stop hs (2 * N + 1 - k)
    rw [show k + (2 * N + 1 - k) = 2 * N + 1 by omega] at this
    exact this.symm
  · have := iter_stop (fin_stop (N := N) (L := L) (D := D) (W := W)) (k - (2 * N + 1))
    rw [show 2 * N + 1 + (k - (2 * N + 1)) = k by omega] at this
    exact this
/-- The schedule. -/
def sched (N : Nat) (L : List (Nat × Nat)) (D : Nat → Nat) (W : Nat) : List Slt := (finS N L D W).sl
theorem sched_full (hL : ∀ p ∈ L, p.1 < N ∧ p.2 < N) (hac : Acyc L) (hW : 0 < W) : (sched N L D W).length = N := by
  obtain ⟨h1, h2⟩ := step_none (fin_stop (N := N) (L := L) (D := D) (W := W))
  have hinv := (fin_rch (N := N) (L := L) (D := D) (W := W)).inv
  have hend := nxt_none.1 h2
  have hfre : fre W (finS N L D W) ≠ none := fun h => by
    have := fre_none.1 h 0 hW
    rw [freB_iff.2 (fun x hx _ => hend x hx)] at this
    cases this
  have hrd := rdy_none.1 (h1.resolve_right hfre)
  unfold sched
  generalize finS N L D W = p at hinv hend hrd
  apply Classical.byContradiction
  intro hne
  have hle := hinv.len
  have hex : ∃ v, v < N ∧ v ∉ p.sl.map Slt.d := by
    apply Classical.byContradiction
    intro hno
    have hsub : ∀ v, v < N → v ∈ p.sl.map Slt.d := fun v hv => by
      apply Classical.byContradiction
      exact fun h' => hno ⟨v, hv, h'⟩
    have : (List.range N).length ≤ (p.sl.map Slt.d).length := (List.nodup_range).length_le_of_subset (fun v hv => hsub v (List.mem_range.1 hv))
    simp at this
    omega
  obtain ⟨v, hv, hvn⟩ := hex
  obtain ⟨a, ha⟩ := cyc_of_stuck (n := N) (L := L) (R := fun v => v < N ∧ v ∉ p.sl.map Slt.d) (fun v h => h.1) (fun v ⟨h3, h4⟩ => by
    have h5 := hrd v h3
    apply Classical.byContradiction
    intro hno
    have : rdyB L p v = true := rdyB_iff.2 ⟨fun x hx e => h4 (List.mem_map.2 ⟨x, hx, e⟩), fun q hq e => by
      apply Classical.byContradiction
      intro h6
      refine hno ⟨q.2, ⟨(hL q hq).2, fun h7 => ?_⟩, by rw [← e]; exact hq⟩
      obtain ⟨x, hx, e2⟩ := List.mem_map.1 h7
      exact h6 ⟨x, hx, e2, hend x hx⟩⟩
    rw [this] at h5
    cases h5) ⟨hv, hvn⟩
  exact hac a ha
theorem tot_le {B : Nat} (hB : ∀ d, d < N → D d ≤ B) {p : St} (h : InvS N L D W p) : tot D p.sl ≤ N * B := by
  have : ∀ sl : List Slt, (∀ x ∈ sl, x.d < N) → tot D sl ≤ sl.length * B := fun sl => by
    induction sl with
    | nil => intro _; simp [tot]
    | cons x sl ih =>
      intro hx
      have h1 := ih (fun y hy => hx y (List.mem_cons_of_mem _ hy))
      have h2 := hB x.d (hx x (List.mem_cons_self ..))
      simp only [tot, List.map_cons, List.sum_cons, List.length_cons, Nat.add_mul] at h1 ⊢
      omega
  exact Nat.le_trans (this p.sl (fun x hx => (h.lt x hx).1)) (Nat.mul_le_mul_right _ h.len)
/-- The program's tables tell the same. -/
theorem endOf_snoc (sl : List Slt) (x : Slt) (d : Nat) : endOf (sl ++ [x]) d = if d = x.d then x.e else endOf sl d := by
  unfold endOf
  rw [List.foldl_append]
  by_cases h : x.d = d
  · simp [h]
  · have : ¬ d = x.d := fun e => h e.symm
    simp [h, this]
theorem busyOf_snoc (sl : List Slt) (x : Slt) (w : Nat) : busyOf (sl ++ [x]) w = if w = x.w then x.e else busyOf sl w := by
  unfold busyOf
  rw [List.foldl_append]
  by_cases h : x.w = w
  · simp [h]
  · have : ¬ w = x.w := fun e => h e.symm
    simp [h, this]
theorem started_snoc (sl : List Slt) (x : Slt) (d : Nat) : started (sl ++ [x]) d = if d = x.d then true else started sl d := by
  unfold started
  rw [List.any_append]
  by_cases h : x.d = d
  · simp [h]
  · have : ¬ d = x.d := fun e => h e.symm
    simp [h, this]
theorem endOf_mem : ∀ {sl : List Slt}, (sl.map Slt.d).Nodup → ∀ {x : Slt}, x ∈ sl → endOf sl x.d = x.e := fun {sl} => by
  induction sl using snoc_ind with
  | nil => intro _ x hx; cases hx
  | snoc sl y ih =>
    intro hn x hx
    rw [List.map_append, List.nodup_append] at hn
    obtain ⟨h1, _, h3⟩ := hn
    rw [endOf_snoc]
    rcases List.mem_append.1 hx with hx | hx
    · rw [if_neg (h3 x.d (List.mem_map.2 ⟨x, hx, rfl⟩) y.d (by simp))]
      exact ih h1 hx
    · rw [List.mem_singleton.1 hx, if_pos rfl]
theorem InvS.ended {p : St} (h : InvS N L D W p) (d : Nat) : endedB p.sl p.now d = (started p.sl d && decide (endOf p.sl d ≤ p.now)) := by
  rw [Bool.eq_iff_iff, ended_iff, Bool.and_eq_true, started_iff, decide_eq_true_eq]
  constructor
  · rintro ⟨x, hx, rfl, h1⟩
    exact ⟨⟨x, hx, rfl⟩, by rw [endOf_mem h.nodup hx]; exact h1⟩
  · rintro ⟨⟨x, hx, rfl⟩, h1⟩
    exact ⟨x, hx, rfl, by rwa [endOf_mem h.nodup hx] at h1⟩
theorem busy_le : ∀ {sl : List Slt} {t w : Nat}, (∀ x ∈ sl, x.s ≤ x.e) → sl.Pairwise (fun x y => x.w = y.w → x.e ≤ y.s) → (busyOf sl w ≤ t ↔ ∀ x ∈ sl, x.w = w → x.e ≤ t) := fun {sl} => by
  induction sl using snoc_ind with
  | nil => intro t w _ _; simp [busyOf]
  | snoc sl y ih =>
    intro t w ht hp
    rw [List.pairwise_append] at hp
    obtain ⟨h1, _, h3⟩ := hp
    rw [busyOf_snoc]
    by_cases e : w = y.w
    · rw [if_pos e]
      constructor
      · intro h x hx ex
        rcases List.mem_append.1 hx with hx | hx
        · have h4 := h3 x hx y (by simp) (ex.trans e)
          have h5 := ht y (by simp)
          omega
        · rw [List.mem_singleton.1 hx]; exact h
      · exact fun h => h y (by simp) e.symm
    · rw [if_neg e, ih (fun x hx => ht x (List.mem_append_left _ hx)) h1]
      constructor
      · intro h x hx ex
        rcases List.mem_append.1 hx with hx | hx
        · exact h x hx ex
        · rw [List.mem_singleton.1 hx] at ex
          exact absurd ex.symm e
      · exact fun h x hx => h x (List.mem_append_left _ hx)
theorem InvS.free {p : St} (h : InvS N L D W p) (w : Nat) : freB p w = decide (busyOf p.sl w ≤ p.now) := by
  rw [Bool.eq_iff_iff, freB_iff, decide_eq_true_eq, busy_le (fun x hx => by have := (h.time x hx).1; omega) h.worker]
end
end Go.Proofs.Ytdocdgghphhdpaa

