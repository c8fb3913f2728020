/- Plain facts about schedules: one worker; equal durations; times multiplied. -/
import Derived.Test.YtinengemeppefaaSchM2
import Derived.Test.YtinengemeppefaaGraM7
namespace Go.Proofs.Ytinengemeppefaa

theorem endOf_le {S : List Slt} {T : Nat} : (∀ x ∈ S, x.e ≤ T) → ∀ d, endOf S d ≤ T := by
  induction S using snoc_ind with
  | nil => intro _ d; simp [endOf]
  | snoc S x ih =>
    intro h d
    rw [endOf_snoc]
    split
    · exact h x (by simp)
    · exact ih (fun y hy => h y (List.mem_append_left _ hy)) d
/-- One device behind the other. -/
def oneG (D : Nat → Nat) : Nat → List Nat → List Slt
  | _, [] => []
  | t, v :: o => ⟨v, 0, t, t + D v⟩ :: oneG D (t + D v) o
theorem oneG_snoc (D : Nat → Nat) : ∀ (o : List Nat) (t v : Nat), oneG D t (o ++ [v]) = oneG D t o ++ [⟨v, 0, t + (o.map D).sum, t + (o.map D).sum + D v⟩]
  | [], t, v => by simp [oneG]
  | u :: o, t, v => by
    simp only [List.cons_append, oneG, List.map_cons, List.sum_cons]
    rw [oneG_snoc D o]
    simp only [Nat.add_assoc]
theorem oneG_len (D : Nat → Nat) : ∀ (o : List Nat) (t : Nat), (oneG D t o).length = o.length
  | [], _ => rfl
  | _ :: o, t => by simp [oneG, oneG_len D o]
theorem oneG_get (D : Nat → Nat) : ∀ (o : List Nat) (t i v : Nat), o[i]? = some v → (oneG D t o)[i]? = some ⟨v, 0, t + ((o.take i).map D).sum, t + ((o.take i).map D).sum + D v⟩
  | [], _, i, v, h => by simp at h
  | u :: o, t, 0, v, h => by
    simp at h
    simp [oneG, h]
  | u :: o, t, i + 1, v, h => by
    simp only [oneG, List.getElem?_cons_succ]
    rw [oneG_get D o (t + D u) i v (by simpa using h)]
    simp only [List.take_succ_cons, List.map_cons, List.sum_cons, Nat.add_assoc]
theorem tot_map (D : Nat → Nat) (sl : List Slt) : tot D sl = ((sl.map Slt.d).map D).sum := by simp [tot, Function.comp_def]
section
variable {N : Nat} {L : List (Nat × Nat)} {D : Nat → Nat}
theorem one_inv {p : St} (h : RchS N L D 1 p) : p.sl = oneG D 0 (p.sl.map Slt.d) ∧ greedyF N L (N - p.sl.length) (p.sl.map Slt.d) = greedy N L := by
  induction h with
  | init => exact ⟨rfl, rfl⟩
  | @step p q hp k ih =>
    have hinv := hp.inv
    rcases step_cases k with ⟨d, w, h1, h2, rfl⟩ | ⟨h1, t, h2, rfl⟩
    · obtain ⟨hw, hf, -⟩ := fre_some.1 h2
      have hw0 : w = 0 := by omega
      subst hw0
      have hall : ∀ x ∈ p.sl, x.e ≤ p.now := fun x hx => freB_iff.1 hf x hx (by have := (hinv.lt x hx).2; omega)
      obtain ⟨ih1, ih2⟩ := ih
      have hnow : p.now = tot D p.sl := by
        apply Nat.le_antisymm hinv.bound.1
        rw [tot_map]
        generalize hO : p.sl.map Slt.d = o at ih1
        have hcase : o = [] ∨ ∃ o' v, o = o' ++ [v] := by
          rcases List.eq_nil_or_concat o with h | ⟨o', v, h⟩
          · exact .inl h
          · exact .inr ⟨o', v, by simpa using h⟩
        rcases hcase with rfl | ⟨o', v, rfl⟩
        · simp
        · rw [oneG_snoc] at ih1
          have := hall ⟨v, 0, 0 + (o'.map D).sum, 0 + (o'.map D).sum + D v⟩ (by rw [ih1]; simp)
          simp at this ⊢
          exact this
      have hpick : pick N L (p.sl.map Slt.d) = some d := by
        have hrd : ∀ u, rdyB L p u = true ↔ Ready L (p.sl.map Slt.d) u := fun u => by
          rw [rdyB_iff]
          unfold Ready
          refine and_congr ?_ ?_
          · rw [List.mem_map]
            exact ⟨fun h ⟨x, hx, e⟩ => h x hx e, fun h x hx e => h ⟨x, hx, e⟩⟩
          · refine forall_congr' fun q => forall_congr' fun _ => forall_congr' fun _ => ?_
            rw [List.mem_map]
            exact ⟨fun ⟨x, hx, e, _⟩ => ⟨x, hx, e⟩, fun ⟨x, hx, e⟩ => ⟨x, hx, e, hall x hx⟩⟩
        obtain ⟨h3, h4, h5⟩ := rdy_some.1 h1
        exact pick_some.2 ⟨h3, (hrd d).1 h4, fun u hu hr => by
          have := h5 u hu
          rw [(hrd u).2 hr] at this
          cases this⟩
      have hlen := begin_len hinv h1 h2
      unfold beginS
      simp only [List.map_append, List.map_cons, List.map_nil, List.length_append, List.length_singleton]
      constructor
      · rw [oneG_snoc, ← ih1, hnow, tot_map]
        simp
      · rw [← ih2, greedyF_step hpick (by omega), Nat.sub_sub]
    · exact ih
theorem one_sched (hL : ∀ p ∈ L, p.1 < N ∧ p.2 < N) (hac : Acyc L) : sched N L D 1 = oneG D 0 (greedy N L) := by
  obtain ⟨h1, h2⟩ := one_inv (fin_rch (N := N) (L := L) (D := D) (W := 1))
  have hlen : (finS N L D 1).sl.length = N := sched_full hL hac (by omega)
  rw [hlen, Nat.sub_self] at h2
  unfold sched
  rw [h1]
  congr 1
theorem Done.one_span {sl : List Slt} (h : Done N L D 1 sl) : mkspan sl = sumTo D N := by
  have h1 := h.total_le
  rw [h.total] at h1
  have hb := h.inv.bound.2
  rw [← h.eq, h.total] at hb
  have h2 := mkspan_le hb
  omega

/-- Times multiplied. -/
def scS (k : Nat) (x : Slt) : Slt := ⟨x.d, x.w, k * x.s, k * x.e⟩
def scP (k : Nat) (p : St) : St := ⟨p.sl.map (scS k), k * p.now⟩
section
variable {k : Nat} (hk : 0 < k) {W : Nat} (p : St)
include hk
theorem sc_le {a b : Nat} : k * a ≤ k * b ↔ a ≤ b := Nat.mul_le_mul_left_iff hk
theorem sc_rdyB (d : Nat) : rdyB L (scP k p) d = rdyB L p d := by
  rw [Bool.eq_iff_iff, rdyB_iff, rdyB_iff]
  unfold scP
  simp only [List.mem_map, scS]
  refine and_congr ?_ ?_
  · constructor
    · exact fun h x hx => h (scS k x) ⟨x, hx, rfl⟩
    · rintro h _ ⟨x, hx, rfl⟩
      exact h x hx
  · refine forall_congr' fun q => forall_congr' fun _ => forall_congr' fun _ => ?_
    constructor
    · rintro ⟨_, ⟨x, hx, rfl⟩, e, h⟩
      exact ⟨x, hx, e, (sc_le hk).1 h⟩
    · rintro ⟨x, hx, e, h⟩
      exact ⟨_, ⟨x, hx, rfl⟩, e, (sc_le hk).2 h⟩
theorem sc_freB (w : Nat) : freB (scP k p) w = freB p w := by
  rw [Bool.eq_iff_iff, freB_iff, freB_iff]
  unfold scP
  simp only [List.mem_map, scS]
  constructor
  · exact fun h x hx e => (sc_le hk).1 (h _ ⟨x, hx, rfl⟩ e)
  · rintro h _ ⟨x, hx, rfl⟩ e
    exact (sc_le hk).2 (h x hx e)
theorem sc_nxt : nxt (scP k p) = (nxt p).map (k * ·) := by
  cases h : nxt p with
  | none =>
    rw [Option.map_none, nxt_none]
    have := nxt_none.1 h
    unfold scP
    simp only [List.mem_map, scS]
    rintro _ ⟨x, hx, rfl⟩
    exact (sc_le hk).2 (this x hx)
  | some t =>
    rw [Option.map_some, nxt_some]
    obtain ⟨⟨x, hx, e, h1⟩, h2⟩ := nxt_some.1 h
    unfold scP
    simp only [List.mem_map, scS]
    refine ⟨⟨_, ⟨x, hx, rfl⟩, by rw [e], Nat.mul_lt_mul_of_pos_left h1 hk⟩, ?_⟩
    rintro _ ⟨y, hy, rfl⟩ h3
    exact (sc_le hk).2 (h2 y hy (Nat.lt_of_mul_lt_mul_left h3))
theorem sc_step : stepS N L (fun d => k * D d) W (scP k p) = (stepS N L D W p).map (scP k) := by
  have hr : rdy N L (scP k p) = rdy N L p := by
    unfold rdy
    rw [show rdyB L (scP k p) = rdyB L p from funext (sc_rdyB hk p)]
  have hf : fre W (scP k p) = fre W p := by
    unfold fre
    rw [show freB (scP k p) = freB p from funext (sc_freB hk p)]
  have hn := sc_nxt hk p
  cases h1 : rdy N L p with
  | none =>
    cases h3 : nxt p with
    | none =>
      rw [step_stop (.inl h1) h3, step_stop (.inl (hr.trans h1)) (by rw [hn, h3]; rfl)]
      rfl
    | some t =>
      rw [step_next (.inl h1) h3, step_next (.inl (hr.trans h1)) (by rw [hn, h3]; rfl)]
      rfl
  | some d =>
    cases h2 : fre W p with
    | none =>
      cases h3 : nxt p with
      | none =>
        rw [step_stop (.inr h2) h3, step_stop (.inr (hf.trans h2)) (by rw [hn, h3]; rfl)]
        rfl
      | some t =>
        rw [step_next (.inr h2) h3, step_next (.inr (hf.trans h2)) (by rw [hn, h3]; rfl)]
        rfl
    | some w =>
      rw [step_begin h1 h2, step_begin (hr.trans h1) (hf.trans h2)]
      simp [beginS, scP, scS, Nat.mul_add]
end
theorem sc_iter {k : Nat} (hk : 0 < k) {W : Nat} : ∀ j, iterS N L (fun d => k * D d) W j = scP k (iterS N L D W j)
  | 0 => rfl
  | j + 1 => by
    show (stepS N L (fun d => k * D d) W (iterS N L (fun d => k * D d) W j)).getD _ = scP k ((stepS N L D W (iterS N L D W j)).getD _)
    rw [sc_iter hk j, sc_step hk]
    cases stepS N L D W (iterS N L D W j) <;> rfl
theorem sc_sched {k : Nat} (hk : 0 < k) {W : Nat} : sched N L (fun d => k * D d) W = (sched N L D W).map (scS k) := by
  unfold sched finS
  rw [sc_iter hk]
  rfl
end
/-- No links, equal durations. -/
def slotAt (W c i : Nat) : Slt := ⟨i, i % W, i / W * c, (i / W + 1) * c⟩
def rowS (W c k : Nat) : List Slt := (List.range k).map (slotAt W c)
theorem rowS_succ (W c k : Nat) : rowS W c (k + 1) = rowS W c k ++ [slotAt W c k] := by simp [rowS, List.range_succ]
theorem mem_rowS {W c k : Nat} {x : Slt} : x ∈ rowS W c k ↔ ∃ i, i < k ∧ x = slotAt W c i := by
  unfold rowS
  rw [List.mem_map]
  exact ⟨fun ⟨i, h1, h2⟩ => ⟨i, List.mem_range.1 h1, h2.symm⟩, fun ⟨i, h1, h2⟩ => ⟨i, List.mem_range.2 h1, h2.symm⟩⟩
theorem many_inv {N W c : Nat} (hW : 0 < W) (hc : 0 < c) {p : St} (h : RchS N [] (fun _ => c) W p) :
    ∃ k q, p.sl = rowS W c k ∧ p.now = q * c ∧ k ≤ (q + 1) * W ∧ (q * W ≤ k ∨ k = N) ∧ k ≤ N := by
  induction h with
  | init => exact ⟨0, 0, rfl, by simp, by omega, .inl (by omega), by omega⟩
  | @step p p' hp st ih =>
    obtain ⟨k, q, h1, h2, h3, h4, h5⟩ := ih
    have hmulc : ∀ a b : Nat, a * c ≤ b * c ↔ a ≤ b := fun a b => Nat.mul_le_mul_right_iff hc
    have hrd : ∀ u, rdyB [] p u = true ↔ k ≤ u := fun u => by
      rw [rdyB_iff, h1]
      constructor
      · intro h
        apply Classical.byContradiction
        intro hlt
        exact h.1 (slotAt W c u) (mem_rowS.2 ⟨u, by omega, rfl⟩) rfl
      · refine fun h => ⟨fun x hx e => ?_, by simp⟩
        obtain ⟨i, hi, rfl⟩ := mem_rowS.1 hx
        simp only [slotAt] at e
        omega
    have hfr : ∀ u, freB p u = true ↔ ∀ i, i < k → i % W = u → i / W + 1 ≤ q := fun u => by
      rw [freB_iff, h1, h2]
      constructor
      · intro h i hi e
        exact (hmulc _ _).1 (h (slotAt W c i) (mem_rowS.2 ⟨i, hi, rfl⟩) e)
      · rintro h x hx e
        obtain ⟨i, hi, rfl⟩ := mem_rowS.1 hx
        exact (hmulc _ _).2 (h i hi e)
    have hdiv : ∀ r, r < W → (q * W + r) / W = q ∧ (q * W + r) % W = r := fun r hr => by
      constructor
      · rw [Nat.mul_comm, Nat.mul_add_div hW, Nat.div_eq_of_lt hr, Nat.add_zero]
      · rw [Nat.mul_comm, Nat.mul_add_mod, Nat.mod_eq_of_lt hr]
    have hq1 : (q + 1) * W = q * W + W := by rw [Nat.add_mul, Nat.one_mul]
    have hiq : ∀ i, i < k → i / W ≤ q := fun i hi => by
      have : i / W < q + 1 := Nat.div_lt_of_lt_mul (by rw [Nat.mul_comm]; omega)
      omega
    rcases step_cases st with ⟨d, w, e1, e2, rfl⟩ | ⟨e1, t, e2, rfl⟩
    · obtain ⟨g1, g2, g3⟩ := rdy_some.1 e1
      obtain ⟨f1, f2, f3⟩ := fre_some.1 e2
      have hkd : k ≤ d := (hrd d).1 g2
      have hdk : d ≤ k := by
        apply Classical.byContradiction
        intro hlt
        have := g3 k (by omega)
        rw [(hrd k).2 (Nat.le_refl _)] at this
        cases this
      obtain rfl : d = k := by omega
      have hqk : q * W ≤ d := h4.resolve_right (by omega)
      have hfw := (hfr w).1 f2
      have hlt : d < (q + 1) * W := by
        apply Classical.byContradiction
        intro hge
        have hh := hdiv w f1
        have := hfw (q * W + w) (by omega) hh.2
        rw [hh.1] at this
        omega
      obtain ⟨r, hr⟩ : ∃ r, d = q * W + r := ⟨d - q * W, by omega⟩
      have hrW : r < W := by omega
      have hh := hdiv r hrW
      have hwr : w = r := by
        rcases Nat.lt_trichotomy w r with hlt2 | he | hgt
        · have hw2 := hdiv w f1
          have := hfw (q * W + w) (by omega) hw2.2
          rw [hw2.1] at this
          omega
        · exact he
        · have := f3 r hgt
          have hfree : freB p r = true := (hfr r).2 fun i hi e => by
            have h6 := hiq i hi
            have h7 : i / W ≠ q := fun e2 => by
              have h8 : W * (i / W) + i % W = i := Nat.div_add_mod i W
              rw [e2, e, Nat.mul_comm] at h8
              omega
            omega
          rw [hfree] at this
          cases this
      subst hwr
      refine ⟨d + 1, q, ?_, h2, by omega, .inl (by omega), by omega⟩
      unfold beginS
      simp only
      rw [rowS_succ, h1, h2]
      unfold slotAt
      rw [hr, hh.1, hh.2, Nat.add_mul, Nat.one_mul]
    · obtain ⟨⟨x, hx, ex, hlt⟩, hmin⟩ := nxt_some.1 e2
      rw [h1] at hx
      rw [h2] at hlt
      obtain ⟨i, hi, rfl⟩ := mem_rowS.1 hx
      simp only [slotAt] at ex
      have hq : q < i / W + 1 := by
        apply Classical.byContradiction
        intro hge
        have := (hmulc (i / W + 1) q).2 (by omega)
        omega
      have hie : i / W = q := by have := hiq i hi; omega
      refine ⟨k, q + 1, h1, by simp only; rw [← ex, hie], by rw [Nat.add_mul]; omega, ?_, h5⟩
      rcases e1 with e1 | e1
      · right
        apply Classical.byContradiction
        intro hne
        have := rdy_none.1 e1 k (by omega)
        rw [(hrd k).2 (Nat.le_refl _)] at this
        cases this
      · left
        apply Classical.byContradiction
        intro hge
        have hqk : q * W ≤ k ∨ k = N := h4
        have hk0 : q * W ≤ i := by
          have := Nat.div_mul_le_self i W
          rw [hie] at this
          exact this
        obtain ⟨r, hr⟩ : ∃ r, k = q * W + r := ⟨k - q * W, by omega⟩
        have hrW : r < W := by omega
        have := fre_none.1 e1 r hrW
        have hfree : freB p r = true := (hfr r).2 fun j hj e => by
          have h6 := hiq j hj
          have h7 : j / W ≠ q := fun e2 => by
            have h8 : W * (j / W) + j % W = j := Nat.div_add_mod j W
            rw [e2, e, Nat.mul_comm] at h8
            omega
          omega
        rw [hfree] at this
        cases this
theorem many_sched {N W c : Nat} (hW : 0 < W) (hc : 0 < c) : sched N [] (fun _ => c) W = rowS W c N := by
  obtain ⟨k, q, h1, -⟩ := many_inv hW hc (fin_rch (N := N) (L := []) (D := fun _ => c) (W := W))
  have hlen : (finS N [] (fun _ => c) W).sl.length = N := sched_full (by simp) (fun a h => by cases h <;> simp_all) hW
  unfold sched
  rw [h1]
  rw [h1] at hlen
  simp [rowS] at hlen
  rw [hlen]
theorem many_span {N W c : Nat} (hW : 0 < W) : mkspan (rowS W c N) = (N + W - 1) / W * c := by
  cases N with
  | zero =>
    have : (0 + W - 1) / W = 0 := Nat.div_eq_of_lt (by omega)
    rw [this]
    simp [rowS, mkspan]
  | succ n =>
    have he : (n + 1 + W - 1) / W = n / W + 1 := by
      rw [show n + 1 + W - 1 = n + W by omega, Nat.add_div_right _ hW]
    rw [he]
    apply Nat.le_antisymm
    · refine mkspan_le fun x hx => ?_
      obtain ⟨i, hi, rfl⟩ := mem_rowS.1 hx
      simp only [slotAt]
      have : i / W ≤ n / W := Nat.div_le_div_right (by omega)
      exact Nat.mul_le_mul_right _ (by omega)
    · exact (mkspan_spec (rowS W c (n + 1))).1 (slotAt W c n) (mem_rowS.2 ⟨n, by omega, rfl⟩)
/-- Equal durations, as many workers as devices: the levels. -/
theorem Done.levels {N : Nat} {L : List (Nat × Nat)} {c W : Nat} {sl : List Slt} (h : Done N L (fun _ => c) W sl) (hNW : N ≤ W) {o : List Nat} (ho : Ord N L o) : ∀ v ∈ o, ∀ x ∈ sl, x.d = v → x.s = levs L o v * c := by
  refine ho.ind fun v hv ih x hx e => ?_
  subst e
  obtain ⟨l1, l2⟩ := levs_spec ho.nodup ho.sup hv
  rw [h.soon hNW hx]
  unfold supEnd
  have hend : ∀ s ∈ nb false L x.d, endOf sl s = (levs L o s + 1) * c := fun s hs => by
    obtain ⟨hso, hi⟩ := ih s (mem_nb.1 hs)
    obtain ⟨y, hy, ey⟩ := h.all s (ho.lt s hso)
    rw [← ey, h.end_ hy, h.time hy, hi y hy ey, ey, Nat.add_mul, Nat.one_mul]
  apply Nat.le_antisymm
  · refine fmax_le fun s hs => ?_
    rw [hend s hs]
    exact Nat.mul_le_mul_right _ (l1 s (mem_nb.1 hs))
  · rcases l2 with h0 | ⟨s, hs, h0⟩
    · rw [h0]; simp
    · have := (fmax_spec (endOf sl) (nb false L x.d)).1 s (mem_nb.2 hs)
      rw [hend s (mem_nb.2 hs), ← h0] at this
      exact this
end Go.Proofs.Ytinengemeppefaa
