/- Plain laws of run-time power management: Get. No program is in sight here. -/
import Derived.Test.YtdocdgghphhdpaaMgRpInUse16
namespace Go.Proofs.Ytdocdgghphhdpaa

section
variable {M : RM} {s : RS}
/-- The links are acyclic and the order bears every device, suppliers first. -/
structure Ordd (M : RM) : Prop where
  lt : ∀ p ∈ M.L, p.1 < M.n ∧ p.2 < M.n
  pre : ∀ (i v : Nat), M.ord[i]? = some v → ∀ p ∈ M.L, p.1 = v → p.2 ∈ M.ord.take i
  all : ∀ v, v < M.n → v ∈ M.ord
  nodup : M.ord.Nodup
  mem : ∀ v ∈ M.ord, v < M.n
theorem sets_get (l : List Nat) : ∀ (r : Nat → Bool) (i : Nat), l.foldl (fun r x => setF r x true) r i = true ↔ r i = true ∨ i ∈ l := by
  induction l with
  | nil => intro r i; simp
  | cons a l ih =>
    intro r i
    rw [List.foldl_cons, ih, List.mem_cons]
    unfold setF
    by_cases e : i = a
    · simp [e]
    · simp [e]
theorem reqStep_get (r : Nat → Bool) (x i : Nat) : reqStep M r x i = true ↔ r i = true ∨ (r x = true ∧ (x, i) ∈ M.L) := by
  unfold reqStep
  split
  · rename_i h
    rw [sets_get]
    simp [h, mem_supL]
  · rename_i h
    simp [h]
/-- The marks after all but the first j of the order. -/
def rqT (M : RM) (d j : Nat) : Nat → Bool := (M.ord.drop j).reverse.foldl (reqStep M) (setF (fun _ => false) d true)
theorem rqT_step (d : Nat) {j v : Nat} (h : M.ord[j]? = some v) : rqT M d j = reqStep M (rqT M d (j + 1)) v := by
  obtain ⟨h1, h2⟩ := List.getElem?_eq_some_iff.1 h
  unfold rqT
  rw [List.drop_eq_getElem_cons h1, h2, List.reverse_cons, List.foldl_append]
  rfl
theorem rqT_zero (M : RM) (d : Nat) : rqT M d 0 = reqM M d := rfl
theorem rqT_mono (d : Nat) {i : Nat} : ∀ {k j : Nat}, j ≤ k → k ≤ M.ord.length → rqT M d k i = true → rqT M d j i = true := by
  intro k
  induction k with
  | zero => intro j hj _ h; rw [show j = 0 by omega]; exact h
  | succ k ih =>
    intro j hj hk h
    by_cases e : j = k + 1
    · rw [e]; exact h
    · obtain ⟨v, hv⟩ : ∃ v, M.ord[k]? = some v := ⟨_, List.getElem?_eq_getElem (by omega)⟩
      refine ih (by omega) (by omega) ?_
      rw [rqT_step d hv, reqStep_get]
      exact .inl h
theorem rqT_self (M : RM) (d : Nat) {j : Nat} (hj : j ≤ M.ord.length) : rqT M d j d = true := by
  refine rqT_mono d hj (Nat.le_refl _) ?_
  unfold rqT
  rw [List.drop_length]
  exact setF_self _ _ _
theorem idx_inj (h : M.ord.Nodup) {i j v : Nat} (hi : M.ord[i]? = some v) (hj : M.ord[j]? = some v) : i = j := by
  obtain ⟨h1, h2⟩ := List.getElem?_eq_some_iff.1 hi
  obtain ⟨k1, k2⟩ := List.getElem?_eq_some_iff.1 hj
  exact (List.getElem_inj h).1 (h2.trans k2.symm)
/-- A device's mark no longer turns once the device has been met. -/
theorem rqT_done (hO : Ordd M) (d : Nat) {k x : Nat} (hx : M.ord[k]? = some x) : ∀ {j : Nat}, j ≤ k → rqT M d j x = true → rqT M d (k + 1) x = true := by
  intro j hj
  obtain ⟨m, hm⟩ : ∃ m, m = k - j := ⟨_, rfl⟩
  have hkl : k < M.ord.length := (List.getElem?_eq_some_iff.1 hx).1
  have key : ∀ (m j : Nat), m = k - j → j ≤ k → rqT M d j x = true → rqT M d (k + 1) x = true := by
    intro m
    induction m with
    | zero =>
      intro j hm hj h
      have e : j = k := by omega
      subst e
      rw [rqT_step d hx, reqStep_get] at h
      rcases h with h | ⟨-, h⟩
      · exact h
      · have := hO.pre j x hx _ h rfl
        obtain ⟨q, hq⟩ := List.getElem?_of_mem this
        rw [List.getElem?_take] at hq
        split at hq
        · rename_i hql
          have := idx_inj hO.nodup hq hx
          omega
        · cases hq
    | succ m ih =>
      intro j hm hj h
      obtain ⟨y, hy⟩ : ∃ y, M.ord[j]? = some y := ⟨_, List.getElem?_eq_getElem (by omega)⟩
      rw [rqT_step d hy, reqStep_get] at h
      rcases h with h | ⟨-, h⟩
      · exact ih (j + 1) (by omega) (by omega) h
      · have := hO.pre j y hy _ h rfl
        obtain ⟨q, hq⟩ := List.getElem?_of_mem this
        rw [List.getElem?_take] at hq
        split at hq
        · rename_i hql
          have := idx_inj hO.nodup hq hx
          omega
        · cases hq
  exact key m j hm hj
theorem req_closed (hO : Ordd M) (d : Nat) {c x : Nat} (hL : (c, x) ∈ M.L) (hc : reqM M d c = true) : reqM M d x = true := by
  obtain ⟨k, hk⟩ := List.getElem?_of_mem (hO.all c (hO.lt _ hL).1)
  have hkl : k < M.ord.length := (List.getElem?_eq_some_iff.1 hk).1
  have h1 : rqT M d (k + 1) c = true := rqT_done hO d hk (Nat.zero_le k) hc
  have h2 : rqT M d k x = true := by
    rw [rqT_step d hk, reqStep_get]
    exact .inr ⟨h1, hL⟩
  exact rqT_mono d (Nat.zero_le k) (by omega) h2
theorem req_sound (d : Nat) : ∀ (j : Nat), j ≤ M.ord.length → ∀ i, rqT M d (M.ord.length - j) i = true → i = d ∨ Req M.L d i := by
  intro j
  induction j with
  | zero =>
    intro _ i h
    unfold rqT at h
    rw [Nat.sub_zero, List.drop_length] at h
    left
    have h : setF (fun _ => false) d true i = true := h
    unfold setF at h
    split at h
    · assumption
    · cases h
  | succ j ih =>
    intro hj i h
    obtain ⟨v, hv⟩ : ∃ v, M.ord[M.ord.length - (j + 1)]? = some v := ⟨_, List.getElem?_eq_getElem (by omega)⟩
    rw [rqT_step d hv, reqStep_get, show M.ord.length - (j + 1) + 1 = M.ord.length - j by omega] at h
    rcases h with h | ⟨h1, h2⟩
    · exact ih (by omega) i h
    · right
      rcases ih (by omega) v h1 with rfl | h3
      · exact .one h2
      · exact h3.trans (.one h2)
theorem req_iff (hO : Ordd M) (d i : Nat) : reqM M d i = true ↔ i = d ∨ Req M.L d i := by
  constructor
  · intro h
    refine req_sound d M.ord.length (Nat.le_refl _) i ?_
    rw [Nat.sub_self, rqT_zero]
    exact h
  · rintro (rfl | h)
    · rw [← rqT_zero]
      exact rqT_self M i (Nat.zero_le _)
    · have h0 : reqM M d d = true := by rw [← rqT_zero]; exact rqT_self M d (Nat.zero_le _)
      have key : ∀ {a b : Nat}, Req M.L a b → reqM M d a = true → reqM M d b = true := by
        intro a b h
        induction h with
        | one hL => exact fun ha => req_closed hO d hL ha
        | step hL _ ih => exact fun ha => ih (req_closed hO d hL ha)
      exact key h h0
/-- Get's second half, after the first j of the order. -/
structure OnMid (M : RM) (now : Nat) (on : Nat → Bool) (last : Nat) (r : Nat → Bool) (s0 : RS) (j : Nat) (p : RS × List POp) : Prop where
  run : Runs M now on last p.2
  act : p.1.act = actsF on p.2
  iff : ∀ i, p.1.act i = true ↔ s0.act i = true ∨ (r i = true ∧ i ∈ M.ord.take j)
  use : p.1.use = s0.use
  sin : p.1.sin = s0.sin
  clk : p.1.clk = s0.clk
  le : lastT last p.2 ≤ now
theorem OnMid.step (hO : Ordd M) {now : Nat} {on : Nat → Bool} {last d j x : Nat} {s0 : RS} {p : RS × List POp} (h : OnMid M now on last (reqM M d) s0 j p) (hx : M.ord[j]? = some x) : OnMid M now on last (reqM M d) s0 (j + 1) (onStep (reqM M d) now p x) := by
  have hlt : j < M.ord.length := (List.getElem?_eq_some_iff.1 hx).1
  have htk : ∀ i, i ∈ M.ord.take (j + 1) ↔ i ∈ M.ord.take j ∨ i = x := fun i => by
    rw [List.take_add_one, hx]
    simp
  unfold onStep
  split
  · rename_i hc
    refine ⟨h.run.snoc ⟨hO.mem x (List.mem_of_getElem? hx), h.le, Nat.le_refl _, by rw [← h.act]; exact hc.2, fun q hq _ e => ?_, (fun q hq e => by cases e)⟩, ?_, fun i => ?_, h.use, h.sin, h.clk, by rw [lastT_snoc]; exact Nat.le_refl _⟩
    · rw [← h.act, h.iff]
      have he : q.1 = x := e
      refine .inr ⟨req_closed hO d (c := x) (by rw [← he]; exact hq) hc.1, hO.pre j x hx q hq he⟩
    · rw [actsF_snoc, h.act]
    · show setF p.1.act x true i = true ↔ _
      rw [htk]
      by_cases e : i = x
      · subst e
        rw [setF_self]
        exact ⟨fun _ => .inr ⟨hc.1, .inr rfl⟩, fun _ => rfl⟩
      · rw [setF_ne _ _ e, h.iff]
        simp [e]
  · rename_i hc
    refine ⟨h.run, h.act, fun i => ?_, h.use, h.sin, h.clk, h.le⟩
    rw [htk]
    by_cases e : i = x
    · subst e
      constructor
      · exact fun hi => (h.iff i).1 hi |>.imp id (fun ⟨a, b⟩ => ⟨a, .inl b⟩)
      · rintro (hi | ⟨hr, -⟩)
        · exact (h.iff i).2 (.inl hi)
        · cases ha : p.1.act i with
          | true => rfl
          | false => exact absurd ⟨hr, ha⟩ hc
    · rw [h.iff]
      simp [e]
theorem onAll (hO : Ordd M) {now : Nat} {on : Nat → Bool} {last d : Nat} {s0 : RS} {p : RS × List POp} (h : OnMid M now on last (reqM M d) s0 0 p) : ∀ j, j ≤ M.ord.length → OnMid M now on last (reqM M d) s0 j ((M.ord.take j).foldl (onStep (reqM M d) now) p)
  | 0, _ => h
  | j + 1, hj => by
    obtain ⟨x, hx⟩ : ∃ x, M.ord[j]? = some x := ⟨_, List.getElem?_eq_getElem (by omega)⟩
    have h1 := (onAll hO h j (by omega)).step hO hx
    obtain ⟨h2, h3⟩ := List.getElem?_eq_some_iff.1 hx
    rw [List.take_succ_eq_append_getElem h2, h3, List.foldl_append]
    exact h1
theorem get_did (hO : Ordd M) (h : Good M s) {last t d : Nat} (hl : last ≤ s.clk) (ht : s.clk ≤ t) (hd : d < M.n) : Did M t s last (getM M s d t) ∧ (getM M s d t).1.use = setF s.use d (s.use d + 1) := by
  have hm := expK_mid (Nat.le_refl t) (M.n + 1) _ _ (h.mid (t := t) hl)
  have hlate := expM_late M t [] (h.up.tick t)
  have hE : (expM M t { s with clk := t } []) = expK M t (M.n + 1) { s with clk := t } [] := rfl
  rw [← hE] at hm
  have hc := expM_clk M t { s with clk := t } []
  have hlast := hm.run.last_le (show last ≤ t by omega)
  unfold getM
  generalize expM M t { s with clk := t } [] = E at hm hlate hc hlast ⊢
  obtain ⟨s1, o1⟩ := E
  simp only at hm hlate hc hlast ⊢
  obtain ⟨hc1, hc2⟩ := hc
  have h0 : OnMid M t s.act last (reqM M d) (useS s1 d (s1.use d + 1)) 0 (useS s1 d (s1.use d + 1), o1) := ⟨hm.run, hm.act, fun i => by simp, rfl, rfl, rfl, hlast⟩
  have h1 := onAll hO h0 M.ord.length (Nat.le_refl _)
  rw [List.take_length] at h1
  generalize M.ord.foldl (onStep (reqM M d) t) (useS s1 d (s1.use d + 1), o1) = R at h1
  have hiff : ∀ i, R.1.act i = true ↔ s1.act i = true ∨ reqM M d i = true := fun i => by
    rw [h1.iff, List.take_length]
    show s1.act i = true ∨ _ ↔ _
    constructor
    · exact Or.imp id And.left
    · rintro (hi | hi)
      · exact .inl hi
      · refine .inr ⟨hi, ?_⟩
        rcases (req_iff hO d i).1 hi with rfl | hq
        · exact hO.all i hd
        · have : ∀ {a b : Nat}, Req M.L a b → b < M.n := by
            intro a b hq
            induction hq with
            | one hL => exact (hO.lt _ hL).2
            | step _ _ ih => exact ih
          exact hO.all i (this hq)
  have hdom : ∀ i, reqM M d i = true → i < M.n := fun i hi => by
    rcases (req_iff hO d i).1 hi with rfl | hq
    · exact hd
    · have : ∀ {a b : Nat}, Req M.L a b → b < M.n := by
        intro a b hq
        induction hq with
        | one hL => exact (hO.lt _ hL).2
        | step _ _ ih => exact ih
      exact this hq
  have hrd : reqM M d d = true := (req_iff hO d d).2 (.inl rfl)
  have hup : Up M R.1 := by
    refine ⟨fun p hp hx => ?_, fun i hi => ?_, fun i hi => ?_⟩
    · rw [hiff] at hx ⊢
      exact hx.imp (hm.up.sup p hp) (fun hr => req_closed hO d (c := p.1) hp hr)
    · rw [hiff]
      rw [h1.use] at hi
      by_cases e : i = d
      · subst e; exact .inr hrd
      · exact .inl (hm.up.use i (by rw [show (useS s1 d (s1.use d + 1)).use i = s1.use i from setF_ne _ _ e] at hi; exact hi))
    · rcases (hiff i).1 hi with hi | hi
      · exact hm.up.dom i hi
      · exact hdom i hi
  refine ⟨⟨h1.run, h1.act, ⟨hup, fun i hi => ?_⟩, h1.clk.trans hc1⟩, h1.use.trans ?_⟩
  · rw [h1.clk]
    show s1.clk + 1 ≤ R.1.sin i + M.dl i
    rw [h1.sin, hc1]
    show t + 1 ≤ exy M s1 i
    obtain ⟨k1, k2, k3⟩ := idl_iff.1 hi
    rw [h1.use] at k2
    have hne : i ≠ d := by
      rintro rfl
      have : (useS s1 i (s1.use i + 1)).use i = s1.use i + 1 := setF_self _ _ _
      omega
    rw [show (useS s1 d (s1.use d + 1)).use i = s1.use i from setF_ne _ _ hne] at k2
    refine hlate i (idl_iff.2 ⟨?_, k2, fun c hc => ?_⟩)
    · rcases (hiff i).1 k1 with hi1 | hi1
      · exact hi1
      · exfalso
        rcases (req_iff hO d i).1 hi1 with rfl | hq
        · exact hne rfl
        · have : ∃ c, (c, i) ∈ M.L ∧ (c = d ∨ Req M.L d c) := by
            have key : ∀ {a b : Nat}, Req M.L a b → ∃ c, (c, b) ∈ M.L ∧ (c = a ∨ Req M.L a c) := by
              intro a b hq
              induction hq with
              | one hL => exact ⟨_, hL, .inl rfl⟩
              | step hL _ ih =>
                obtain ⟨c, h1, h2⟩ := ih
                refine ⟨c, h1, .inr ?_⟩
                rcases h2 with rfl | h2
                · exact .one hL
                · exact .step hL h2
            exact key hq
          obtain ⟨c, hc1, hc2⟩ := this
          have h5 := k3 c hc1
          rw [(hiff c).2 (.inr ((req_iff hO d c).2 hc2))] at h5
          cases h5
    · have h5 := k3 c hc
      cases h6 : s1.act c with
      | false => rfl
      | true =>
        rw [(hiff c).2 (.inl h6)] at h5
        cases h5
  · show setF s1.use d (s1.use d + 1) = _
    rw [hc2]
end
end Go.Proofs.Ytdocdgghphhdpaa

