/- Plain facts about schedules: longest paths, the makespan, and the bounds. -/
import Derived.Test.YtdocdgghphhdpaaSchMMg
namespace Go.Proofs.Ytdocdgghphhdpaa

def fmax (f : Nat → Nat) (C : List Nat) : Nat := C.foldl (fun b s => max b (f s)) 0
theorem fmax_snoc (f : Nat → Nat) (C : List Nat) (s : Nat) : fmax f (C ++ [s]) = max (fmax f C) (f s) := by simp [fmax]
theorem fmax_spec (f : Nat → Nat) (C : List Nat) : (∀ s ∈ C, f s ≤ fmax f C) ∧ (fmax f C = 0 ∨ ∃ s ∈ C, fmax f C = f s) := by
  induction C using snoc_ind with
  | nil => exact ⟨by simp, .inl rfl⟩
  | snoc C s ih =>
    rw [fmax_snoc]
    obtain ⟨h1, h2⟩ := ih
    refine ⟨fun u hu => ?_, ?_⟩
    · rcases List.mem_append.1 hu with hu | hu
      · have := h1 u hu; omega
      · rw [List.mem_singleton.1 hu]; omega
    · rcases Nat.le_total (fmax f C) (f s) with h | h
      · exact .inr ⟨s, by simp, by omega⟩
      · rcases h2 with h2 | ⟨u, hu, h2⟩
        · exact .inl (by omega)
        · exact .inr ⟨u, List.mem_append_left _ hu, by omega⟩
theorem fmax_le {f : Nat → Nat} {C : List Nat} {b : Nat} (h : ∀ s ∈ C, f s ≤ b) : fmax f C ≤ b := by
  rcases (fmax_spec f C).2 with h2 | ⟨s, hs, h2⟩
  · omega
  · have := h s hs; omega
theorem fmax_congr {f g : Nat → Nat} {C : List Nat} (h : ∀ s ∈ C, f s = g s) : fmax f C = fmax g C := by
  apply Nat.le_antisymm
  · exact fmax_le fun s hs => by rw [h s hs]; exact (fmax_spec g C).1 s hs
  · exact fmax_le fun s hs => by rw [← h s hs]; exact (fmax_spec f C).1 s hs
theorem mem_nb {L : List (Nat × Nat)} {v s : Nat} : s ∈ nb false L v ↔ (v, s) ∈ L := by
  have := nb_mem (cons := false) (L := L) (v := v) (u := s)
  simpa using this

/-- The longest path to each node behind the nodes o, and the longest of them. -/
def cpV (L : List (Nat × Nat)) (D f : Nat → Nat) (v : Nat) : Nat → Nat := fun u => if u = v then fmax f (nb false L v) + D v else f u
def pathM (L : List (Nat × Nat)) (D : Nat → Nat) (o : List Nat) : Nat → Nat := o.foldl (cpV L D) fun _ => 0
theorem pathM_snoc (L : List (Nat × Nat)) (D : Nat → Nat) (o : List Nat) (v : Nat) : pathM L D (o ++ [v]) = cpV L D (pathM L D o) v := by simp [pathM]
def cpM (L : List (Nat × Nat)) (D : Nat → Nat) (o : List Nat) : Nat := fmax (pathM L D o) o
theorem pathM_app (L : List (Nat × Nat)) (D : Nat → Nat) (o r : List Nat) {u : Nat} (h : u ∉ r) : pathM L D (o ++ r) u = pathM L D o u := by
  induction r using snoc_ind with
  | nil => simp
  | snoc r c ih =>
    rw [← List.append_assoc, pathM_snoc]
    have h1 : u ∉ r := fun h' => h (List.mem_append_left _ h')
    have h2 : u ≠ c := fun e => h (by rw [e]; simp)
    unfold cpV
    rw [if_neg h2]
    exact ih h1
theorem pathM_zero (L : List (Nat × Nat)) (D : Nat → Nat) {o : List Nat} {u : Nat} (h : u ∉ o) : pathM L D o u = 0 := by
  have := pathM_app L D [] o h
  rwa [List.nil_append] at this
theorem cpM_snoc {L : List (Nat × Nat)} {D : Nat → Nat} {o : List Nat} {v : Nat} (h : v ∉ o) : cpM L D (o ++ [v]) = max (cpM L D o) (pathM L D (o ++ [v]) v) := by
  unfold cpM
  rw [fmax_snoc]
  congr 1
  exact fmax_congr fun s hs => pathM_app L D o [v] (fun h' => h (by rw [← List.mem_singleton.1 h']; exact hs))
/-- An order: every supplier of a node before it. -/
structure Ord (n : Nat) (L : List (Nat × Nat)) (o : List Nat) : Prop where
  nodup : o.Nodup
  lt : ∀ v ∈ o, v < n
  sup : ∀ (i : Nat) (v : Nat), o[i]? = some v → ∀ p ∈ L, p.1 = v → p.2 ∈ o.take i
theorem greedy_ord (n : Nat) (L : List (Nat × Nat)) : Ord n L (greedy n L) := ⟨(greedy_ok n L).nodup, (greedy_ok n L).lt, greedy_prefix n L⟩
/-- Induction along an order: a fact that the suppliers hand on. -/
theorem Ord.ind {n : Nat} {L : List (Nat × Nat)} {o : List Nat} (h : Ord n L o) {P : Nat → Prop} (hs : ∀ v ∈ o, (∀ s, (v, s) ∈ L → s ∈ o ∧ P s) → P v) : ∀ v ∈ o, P v := by
  have : ∀ k, ∀ v ∈ o.take k, P v := fun k => by
    induction k with
    | zero => simp
    | succ k ih =>
      intro v hv
      by_cases hk : k < o.length
      · have hg : o[k]? = some o[k] := List.getElem?_eq_getElem hk
        rw [take_succ_some hg] at hv
        rcases List.mem_append.1 hv with hv | hv
        · exact ih v hv
        · rw [List.mem_singleton.1 hv]
          refine hs _ (List.getElem_mem hk) fun s hsl => ?_
          have := h.sup k _ hg _ hsl rfl
          exact ⟨List.mem_of_mem_take this, ih _ this⟩
      · rw [List.take_of_length_le (by omega)] at hv ih
        exact ih v hv
  intro v hv
  have h1 := this o.length
  rw [List.take_length] at h1
  exact h1 v hv
theorem Ord.path {n : Nat} {L : List (Nat × Nat)} {o : List Nat} (h : Ord n L o) (D : Nat → Nat) {v : Nat} (hv : v ∈ o) : pathM L D o v = fmax (pathM L D o) (nb false L v) + D v := by
  obtain ⟨i, hi⟩ := List.mem_iff_getElem?.1 hv
  have hsp := split_at_some hi
  have hsup := h.sup i v hi
  have hn := h.nodup
  generalize o.take i = t at hsp hsup
  generalize o.drop (i + 1) = r at hsp
  rw [hsp, List.nodup_append] at hn
  obtain ⟨_, hn2, hn3⟩ := hn
  have hvr : v ∉ r := (List.nodup_cons.1 hn2).1
  have e : pathM L D o v = pathM L D (t ++ [v]) v := by rw [hsp, show t ++ v :: r = (t ++ [v]) ++ r by simp, pathM_app L D _ _ hvr]
  rw [e, pathM_snoc]
  unfold cpV
  rw [if_pos rfl]
  congr 1
  refine fmax_congr fun s hs => ?_
  have hst := hsup _ (mem_nb.1 hs) rfl
  rw [hsp, pathM_app L D t (v :: r) (fun hx => hn3 s hst s hx rfl)]

/-- The end of the last slot to end. -/
def mkspan (sl : List Slt) : Nat := sl.foldl (fun b x => max b x.e) 0
theorem mkspan_snoc (sl : List Slt) (x : Slt) : mkspan (sl ++ [x]) = max (mkspan sl) x.e := by simp [mkspan]
theorem mkspan_spec (sl : List Slt) : (∀ x ∈ sl, x.e ≤ mkspan sl) ∧ (mkspan sl = 0 ∨ ∃ x ∈ sl, mkspan sl = x.e) := by
  induction sl using snoc_ind with
  | nil => exact ⟨by simp, .inl rfl⟩
  | snoc C s ih =>
    rw [mkspan_snoc]
    obtain ⟨h1, h2⟩ := ih
    refine ⟨fun u hu => ?_, ?_⟩
    · rcases List.mem_append.1 hu with hu | hu
      · have := h1 u hu; omega
      · rw [List.mem_singleton.1 hu]; omega
    · rcases Nat.le_total (mkspan C) s.e with h | h
      · exact .inr ⟨s, by simp, by omega⟩
      · rcases h2 with h2 | ⟨u, hu, h2⟩
        · exact .inl (by omega)
        · exact .inr ⟨u, List.mem_append_left _ hu, by omega⟩
theorem mkspan_le {sl : List Slt} {b : Nat} (h : ∀ x ∈ sl, x.e ≤ b) : mkspan sl ≤ b := by
  rcases (mkspan_spec sl).2 with h2 | ⟨s, hs, h2⟩
  · omega
  · have := h s hs; omega

/-- A schedule that is done. -/
structure Done (N : Nat) (L : List (Nat × Nat)) (D : Nat → Nat) (W : Nat) (sl : List Slt) : Prop where
  inv : InvS N L D W (finS N L D W)
  eq : sl = (finS N L D W).sl
  len : sl.length = N
  all : ∀ d, d < N → ∃ x ∈ sl, x.d = d
theorem sched_done {N : Nat} {L : List (Nat × Nat)} {D : Nat → Nat} {W : Nat} (hL : ∀ p ∈ L, p.1 < N ∧ p.2 < N) (hac : Acyc L) (hW : 0 < W) : Done N L D W (sched N L D W) := by
  have hinv := (fin_rch (N := N) (L := L) (D := D) (W := W)).inv
  have hlen := sched_full (D := D) hL hac hW
  refine ⟨hinv, rfl, hlen, fun d hd => ?_⟩
  have := mem_of_full (n := N) (o := (sched N L D W).map Slt.d) (fun v hv => by
    obtain ⟨x, hx, rfl⟩ := List.mem_map.1 hv
    exact (hinv.lt x hx).1) hinv.nodup (by simpa using hlen) hd
  obtain ⟨x, hx, e⟩ := List.mem_map.1 this
  exact ⟨x, hx, e⟩
section
variable {N : Nat} {L : List (Nat × Nat)} {D : Nat → Nat} {W : Nat} {sl : List Slt}
/-- The latest end of the suppliers. -/
def supEnd (L : List (Nat × Nat)) (sl : List Slt) (d : Nat) : Nat := fmax (endOf sl) (nb false L d)
theorem Done.end_ (h : Done N L D W sl) {x : Slt} (hx : x ∈ sl) : endOf sl x.d = x.e := by
  have hn := h.inv.nodup
  rw [← h.eq] at hn
  exact endOf_mem hn hx
theorem Done.sup_le (h : Done N L D W sl) {x : Slt} (hx : x ∈ sl) : supEnd L sl x.d ≤ x.s := by
  refine fmax_le fun s hs => ?_
  have hd := h.inv.deps
  rw [← h.eq] at hd
  obtain ⟨y, hy, e, h1⟩ := hd x hx _ (mem_nb.1 hs) rfl
  have : endOf sl s = y.e := by rw [← h.end_ hy, e]
  omega
theorem Done.time (h : Done N L D W sl) {x : Slt} (hx : x ∈ sl) : x.e = x.s + D x.d := by
  have := h.inv.time
  rw [← h.eq] at this
  exact (this x hx).1
/-- While a device could start and has not started, each worker is busy. -/
theorem Done.busy (h : Done N L D W sl) {x : Slt} (hx : x ∈ sl) {u : Nat} (h1 : supEnd L sl x.d ≤ u) (h2 : u < x.s) {w : Nat} (hw : w < W) : ∃ y ∈ sl, y.w = w ∧ y.s ≤ u ∧ u < y.e := by
  have hf := h.inv.full
  have hd := h.inv.deps
  have ht := h.inv.time
  have hn := h.inv.nodup
  have hl := h.inv.lt
  rw [← h.eq] at hf hd ht hn hl
  refine hf u (by have := (ht x hx).2; omega) x.d (hl x hx).1 (fun y hy e => ?_) (fun q hq e => ?_) w hw
  · have h3 : endOf sl y.d = y.e := endOf_mem hn hy
    have h4 : y = x := by
      have hpw := List.pairwise_map.1 hn
      have hmm := List.getElem?_of_mem hy
      have hmx := List.getElem?_of_mem hx
      obtain ⟨i, hi⟩ := hmm
      obtain ⟨j, hj⟩ := hmx
      obtain ⟨hil, hi'⟩ := List.getElem?_eq_some_iff.1 hi
      obtain ⟨hjl, hj'⟩ := List.getElem?_eq_some_iff.1 hj
      have : i = j := by
        apply (List.getElem_inj (h₀ := by simpa using hil) (h₁ := by simpa using hjl) hn).1
        simp only [List.getElem_map]
        rw [hi', hj', e]
      subst this
      rw [← hi', ← hj']
    rw [h4]; exact h2
  · obtain ⟨y, hy, e2, h3⟩ := hd x hx q hq e
    refine ⟨y, hy, e2, ?_⟩
    have h4 : endOf sl q.2 = y.e := by rw [← e2]; exact endOf_mem hn hy
    have h5 := (fmax_spec (endOf sl) (nb false L x.d)).1 q.2 (mem_nb.2 (by rw [← e]; exact hq))
    unfold supEnd at h1
    omega
/-- How many slots are on at a time. -/
def onAt (sl : List Slt) (u : Nat) : Nat := (sl.filter fun x => decide (x.s ≤ u ∧ u < x.e)).length
theorem on_ge (sl : List Slt) (W u : Nat) (h : ∀ w, w < W → ∃ y ∈ sl, y.w = w ∧ y.s ≤ u ∧ u < y.e) : W ≤ onAt sl u := by
  have : (List.range W).length ≤ ((sl.filter fun x => decide (x.s ≤ u ∧ u < x.e)).map Slt.w).length := (List.nodup_range).length_le_of_subset (fun w hw => by
    obtain ⟨y, hy, e, h1⟩ := h w (List.mem_range.1 hw)
    exact List.mem_map.2 ⟨y, List.mem_filter.2 ⟨hy, by simpa using h1⟩, e⟩)
  simpa [onAt] using this
def sumTo (f : Nat → Nat) : Nat → Nat
  | 0 => 0
  | k + 1 => sumTo f k + f k
theorem sumTo_add (f g : Nat → Nat) : ∀ k, sumTo (fun u => f u + g u) k = sumTo f k + sumTo g k
  | 0 => rfl
  | k + 1 => by simp only [sumTo, sumTo_add f g k]; omega
theorem sumTo_mono {f g : Nat → Nat} (h : ∀ u, f u ≤ g u) : ∀ k, sumTo f k ≤ sumTo g k
  | 0 => Nat.le_refl _
  | k + 1 => by have := sumTo_mono h k; have := h k; simp only [sumTo]; omega
theorem sumTo_congr {f g : Nat → Nat} : ∀ k, (∀ u, u < k → f u = g u) → sumTo f k = sumTo g k
  | 0, _ => rfl
  | k + 1, h => by
    simp only [sumTo]
    rw [sumTo_congr k (fun u hu => h u (by omega)), h k (by omega)]
theorem sumTo_const (c : Nat) : ∀ k, sumTo (fun _ => c) k = k * c
  | 0 => by simp [sumTo]
  | k + 1 => by simp only [sumTo, sumTo_const c k, Nat.add_mul]; omega
theorem sumTo_in (a b : Nat) : ∀ k, sumTo (fun u => if a ≤ u ∧ u < b then 1 else 0) k ≤ min k b - a
  | 0 => by simp [sumTo]
  | k + 1 => by
    have := sumTo_in a b k
    simp only [sumTo]
    split <;> omega
theorem on_sum : ∀ (sl : List Slt), (∀ x ∈ sl, x.e = x.s + D x.d) → ∀ k, sumTo (onAt sl) k ≤ tot D sl
  | [], _, k => by
    have : ∀ k, sumTo (onAt []) k = 0 := fun k => by
      induction k with
      | zero => rfl
      | succ k ih => simp [sumTo, ih, onAt]
    simp [this]
  | x :: sl, h, k => by
    have ih := on_sum sl (fun y hy => h y (List.mem_cons_of_mem _ hy)) k
    have e : sumTo (onAt (x :: sl)) k = sumTo (fun u => (if x.s ≤ u ∧ u < x.e then 1 else 0) + onAt sl u) k := sumTo_congr k fun u _ => by
      unfold onAt
      by_cases hc : x.s ≤ u ∧ u < x.e
      · simp [List.filter_cons, hc]; omega
      · simp only [List.filter_cons, hc, decide_false, if_false]; simp
    rw [e, sumTo_add (fun u => if x.s ≤ u ∧ u < x.e then 1 else 0)]
    have h1 := sumTo_in x.s x.e k
    have h2 := h x (List.mem_cons_self ..)
    simp only [tot, List.map_cons, List.sum_cons] at ih ⊢
    omega
/-- The workers' idle time up to a time. -/
def idle (W : Nat) (sl : List Slt) : Nat → Nat := sumTo fun u => W - onAt sl u
theorem idle_zero {a b : Nat} (hab : a ≤ b) (h : ∀ u, a ≤ u → u < b → W ≤ onAt sl u) : idle W sl b = idle W sl a := by
  induction b with
  | zero => rw [show a = 0 by omega]
  | succ b ih =>
    by_cases e : a = b + 1
    · rw [e]
    · have := ih (by omega) (fun u h1 h2 => h u h1 (by omega))
      have h3 := h b (by omega) (by omega)
      unfold idle at this ⊢
      simp only [sumTo]
      omega
theorem idle_one {a b : Nat} (hab : a ≤ b) (h : ∀ u, a ≤ u → u < b → 1 ≤ onAt sl u) : idle W sl b ≤ idle W sl a + (b - a) * (W - 1) := by
  induction b with
  | zero => rw [show a = 0 by omega]; omega
  | succ b ih =>
    by_cases e : a = b + 1
    · rw [e]; omega
    · have := ih (by omega) (fun u h1 h2 => h u h1 (by omega))
      have h3 := h b (by omega) (by omega)
      rw [show b + 1 - a = (b - a) + 1 by omega, Nat.add_mul, Nat.one_mul]
      unfold idle at this ⊢
      simp only [sumTo]
      omega
theorem idle_work (W : Nat) (sl : List Slt) (t : Nat) : W * t ≤ idle W sl t + sumTo (onAt sl) t := by
  unfold idle
  rw [← sumTo_add, Nat.mul_comm, ← sumTo_const]
  exact sumTo_mono (fun u => by omega) t
theorem on_self {x : Slt} (hx : x ∈ sl) {u : Nat} (h1 : x.s ≤ u) (h2 : u < x.e) : 1 ≤ onAt sl u := by
  unfold onAt
  have : x ∈ sl.filter fun x => decide (x.s ≤ u ∧ u < x.e) := List.mem_filter.2 ⟨hx, by simp [h1, h2]⟩
  exact List.length_pos_of_mem this
theorem Done.mem_ord (h : Done N L D W sl) {o : List Nat} (hof : o.length = N) (ho : Ord N L o) {x : Slt} (hx : x ∈ sl) : x.d ∈ o := by
  have hl := h.inv.lt
  rw [← h.eq] at hl
  exact mem_of_full ho.lt ho.nodup hof (hl x hx).1
/-- The idle time when a device ends: no more than one worker less than all, for the longest path to it. -/
theorem Done.idle_le (h : Done N L D W sl) {o : List Nat} (ho : Ord N L o) : ∀ v ∈ o, ∀ x ∈ sl, x.d = v → idle W sl x.e ≤ (W - 1) * pathM L D o v := by
  refine ho.ind fun v hv ih x hx e => ?_
  subst e
  have hrun : idle W sl x.e ≤ idle W sl x.s + (x.e - x.s) * (W - 1) := idle_one (by rw [h.time hx]; omega) (fun u h1 h2 => on_self hx h1 h2)
  have hwait : idle W sl x.s = idle W sl (supEnd L sl x.d) := idle_zero (h.sup_le hx) (fun u h1 h2 => on_ge sl W u (fun w hw => h.busy hx h1 h2 hw))
  have hp := ho.path D hv
  have hd : x.e - x.s = D x.d := by rw [h.time hx]; omega
  have hsup : idle W sl (supEnd L sl x.d) ≤ (W - 1) * fmax (pathM L D o) (nb false L x.d) := by
    rcases (fmax_spec (endOf sl) (nb false L x.d)).2 with h0 | ⟨s, hs, h0⟩
    · unfold supEnd
      rw [h0]
      simp [idle, sumTo]
    · obtain ⟨hso, hi⟩ := ih s (mem_nb.1 hs)
      obtain ⟨y, hy, ey⟩ := h.all s (ho.lt s hso)
      have h1 := hi y hy ey
      unfold supEnd
      rw [h0, ← ey, h.end_ hy]
      refine Nat.le_trans h1 (Nat.mul_le_mul_left _ ?_)
      exact (fmax_spec (pathM L D o) (nb false L x.d)).1 s hs
  rw [hp, Nat.mul_add, Nat.mul_comm (W - 1) (D x.d), ← hd]
  omega
theorem Done.graham (h : Done N L D W sl) {o : List Nat} (ho : Ord N L o) (hof : o.length = N) : W * mkspan sl ≤ tot D sl + (W - 1) * cpM L D o := by
  have h1 := idle_work W sl (mkspan sl)
  have h2 := on_sum (D := D) sl (fun x hx => h.time hx) (mkspan sl)
  have h3 : idle W sl (mkspan sl) ≤ (W - 1) * cpM L D o := by
    rcases (mkspan_spec sl).2 with h0 | ⟨x, hx, h0⟩
    · rw [h0]; simp [idle, sumTo]
    · rw [h0]
      have hm := h.mem_ord hof ho hx
      exact Nat.le_trans (h.idle_le ho x.d hm x hx rfl) (Nat.mul_le_mul_left _ ((fmax_spec (pathM L D o) o).1 _ hm))
  omega
theorem Done.cp_le (h : Done N L D W sl) {o : List Nat} (ho : Ord N L o) : cpM L D o ≤ mkspan sl := by
  have : ∀ v ∈ o, pathM L D o v ≤ endOf sl v := ho.ind fun v hv ih => by
    rw [ho.path D hv]
    obtain ⟨x, hx, e⟩ := h.all v (ho.lt v hv)
    subst e
    have h1 := h.sup_le hx
    rw [h.end_ hx, h.time hx]
    have h2 : fmax (pathM L D o) (nb false L x.d) ≤ supEnd L sl x.d := fmax_le fun s hs => Nat.le_trans (ih s (mem_nb.1 hs)).2 ((fmax_spec (endOf sl) (nb false L x.d)).1 s hs)
    omega
  refine fmax_le fun v hv => ?_
  obtain ⟨x, hx, e⟩ := h.all v (ho.lt v hv)
  have h1 := this v hv
  have h2 := (mkspan_spec sl).1 x hx
  rw [← e, h.end_ hx, e] at h1
  omega
theorem sum_busy : ∀ (W : Nat) (f : Nat → Nat) (w a : Nat), w < W → f w ≤ a → sumTo (fun u => if u = w then a else f u) W = sumTo f W + (a - f w)
  | 0, f, w, a, hw, _ => by omega
  | W + 1, f, w, a, hw, ha => by
    simp only [sumTo]
    by_cases e : w = W
    · subst e
      rw [if_pos rfl, sumTo_congr w (g := f) (fun u hu => if_neg (by omega))]
      omega
    · rw [if_neg (fun h => e h.symm), sum_busy W f w a (by omega) ha]
      omega
theorem tot_le_busy : ∀ (sl : List Slt), (∀ x ∈ sl, x.e = x.s + D x.d ∧ x.w < W) → sl.Pairwise (fun x y => x.w = y.w → x.e ≤ y.s) → tot D sl ≤ sumTo (busyOf sl) W := fun sl => by
  induction sl using snoc_ind with
  | nil => intro _ _; simp [tot]
  | snoc sl y ih =>
    intro h hp
    rw [List.pairwise_append] at hp
    obtain ⟨h1, _, h3⟩ := hp
    have ih' := ih (fun x hx => h x (List.mem_append_left _ hx)) h1
    obtain ⟨hy, hyw⟩ := h y (by simp)
    have hb : busyOf sl y.w ≤ y.s := (busy_le (fun x hx => by have := (h x (List.mem_append_left _ hx)).1; omega) h1).2 (fun x hx e => h3 x hx y (by simp) e)
    rw [tot_snoc, sumTo_congr W (g := fun u => if u = y.w then y.e else busyOf sl u) (fun u _ => busyOf_snoc sl y u), sum_busy W (busyOf sl) y.w y.e hyw (by omega)]
    omega
theorem Done.total_le (h : Done N L D W sl) : tot D sl ≤ W * mkspan sl := by
  have hl := h.inv.lt
  have hw := h.inv.worker
  rw [← h.eq] at hl hw
  refine Nat.le_trans (tot_le_busy sl (fun x hx => ⟨h.time hx, (hl x hx).2⟩) hw) ?_
  rw [Nat.mul_comm, Nat.mul_comm, Nat.mul_comm, ← Nat.mul_comm, ← sumTo_const]
  refine sumTo_mono (fun w => ?_) W
  exact (busy_le (fun x hx => by have := h.time hx; omega) hw).2 (fun x hx _ => (mkspan_spec sl).1 x hx)
/-- The total duration does not depend on the schedule. -/
theorem sum_perm {o : List Nat} (h1 : ∀ v ∈ o, v < N) (h2 : o.Nodup) (h3 : o.length = N) : (o.map D).sum = sumTo D N := by
  have hp : o.Perm (List.range N) := by
    rw [List.perm_ext_iff_of_nodup h2 List.nodup_range]
    intro a
    rw [List.mem_range]
    exact ⟨h1 a, fun ha => mem_of_full h1 h2 h3 ha⟩
  rw [(hp.map D).sum_nat]
  clear h1 h2 h3 hp
  induction N with
  | zero => rfl
  | succ n ih => rw [List.range_succ, List.map_append, List.sum_append, ih]; simp [sumTo]
theorem Done.total (h : Done N L D W sl) : tot D sl = sumTo D N := by
  have hl := h.inv.lt
  have hn := h.inv.nodup
  rw [← h.eq] at hl hn
  have := sum_perm (D := D) (o := sl.map Slt.d) (fun v hv => by
    obtain ⟨x, hx, rfl⟩ := List.mem_map.1 hv
    exact (hl x hx).1) hn (by simpa using h.len)
  rw [← this]
  simp [tot, Function.comp_def]
/-- With as many workers as devices each device starts as soon as it can. -/
theorem Done.soon (h : Done N L D W sl) (hNW : N ≤ W) {x : Slt} (hx : x ∈ sl) : x.s = supEnd L sl x.d := by
  have h1 := h.sup_le hx
  apply Classical.byContradiction
  intro hne
  have h2 := on_ge sl W (supEnd L sl x.d) (fun w hw => h.busy hx (Nat.le_refl _) (by omega) hw)
  unfold onAt at h2
  have h3 := filter_lt_of (f := fun _ : Slt => true) (g := fun x' => decide (x'.s ≤ supEnd L sl x.d ∧ supEnd L sl x.d < x'.e)) (l := sl) (fun _ _ _ => rfl) hx rfl (by simp; omega)
  have h4 := List.length_filter_le (fun _ : Slt => true) sl
  have := h.len
  omega
theorem Done.path_end (h : Done N L D W sl) (hNW : N ≤ W) {o : List Nat} (ho : Ord N L o) : ∀ v ∈ o, pathM L D o v = endOf sl v := ho.ind fun v hv ih => by
  rw [ho.path D hv]
  obtain ⟨x, hx, e⟩ := h.all v (ho.lt v hv)
  subst e
  rw [h.end_ hx, h.time hx, h.soon hNW hx]
  congr 1
  exact fmax_congr fun s hs => (ih s (mem_nb.1 hs)).2
theorem Done.span_cp (h : Done N L D W sl) (hNW : N ≤ W) {o : List Nat} (ho : Ord N L o) (hof : o.length = N) : mkspan sl = cpM L D o := by
  apply Nat.le_antisymm
  · refine mkspan_le fun x hx => ?_
    have hm := h.mem_ord hof ho hx
    rw [← h.end_ hx, ← h.path_end hNW ho x.d hm]
    exact (fmax_spec (pathM L D o) o).1 _ hm
  · exact h.cp_le ho
end
end Go.Proofs.Ytdocdgghphhdpaa

