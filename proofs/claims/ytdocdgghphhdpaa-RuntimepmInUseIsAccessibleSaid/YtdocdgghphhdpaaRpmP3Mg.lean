/- Plain laws of run-time power management: advancing in two steps, the next expiry, the end of all uses. No program is in sight here. -/
import Derived.Test.YtdocdgghphhdpaaRpmP2Mg
namespace Go.Proofs.Ytdocdgghphhdpaa

section
variable {M : RM} {s : RS}
theorem markS_clk (t c : Nat) (s : RS) (x : Nat) : markS M t { s with clk := c } x = { markS M t s x with clk := c } := by
  unfold markS
  rw [idl_congr (s := { s with clk := c }) (s' := s) rfl rfl]
  split <;> rfl
theorem marks_clk (t c : Nat) : ∀ (l : List Nat) (s : RS), l.foldl (markS M t) { s with clk := c } = { l.foldl (markS M t) s with clk := c }
  | [], _ => rfl
  | a :: l, s => by
    rw [List.foldl_cons, List.foldl_cons, markS_clk, marks_clk t c l]
theorem offS_clk (c d : Nat) (s : RS) : offS M { s with clk := c } d = { offS M s d with clk := c } := marks_clk (exy M s d) c _ { s with act := setF s.act d false }
theorem fstTo_clk (c : Nat) (s : RS) : ∀ k, fstTo M { s with clk := c } k = fstTo M s k
  | 0 => rfl
  | k + 1 => by
    unfold fstTo
    rw [fstTo_clk c s k]
    rfl
theorem expK_clk (lim c : Nat) : ∀ (k : Nat) (s : RS) (ops : List POp), expK M lim k { s with clk := c } ops = ({ (expK M lim k s ops).1 with clk := c }, (expK M lim k s ops).2)
  | 0, _, _ => rfl
  | k + 1, s, ops => by
    unfold expK
    rw [show fstM M { s with clk := c } = fstM M s from fstTo_clk c s _]
    split
    · rfl
    · rename_i d hd
      rw [show exy M { s with clk := c } d = exy M s d from rfl]
      split
      · rfl
      · rw [offS_clk, expK_clk lim c k]
theorem expK_acc (lim : Nat) (a : List POp) : ∀ (k : Nat) (s : RS) (b : List POp), expK M lim k s (a ++ b) = ((expK M lim k s b).1, a ++ (expK M lim k s b).2)
  | 0, _, _ => rfl
  | k + 1, s, b => by
    unfold expK
    split
    · rfl
    · split
      · rfl
      · rw [List.append_assoc, expK_acc lim a k]
theorem nAct_expK (lim : Nat) : ∀ (k : Nat) (s : RS) (ops : List POp), Up M s → nAct M (expK M lim k s ops).1 ≤ nAct M s
  | 0, _, _, _ => Nat.le_refl _
  | k + 1, s, ops, h => by
    unfold expK
    split
    · exact Nat.le_refl _
    · rename_i d hd
      obtain ⟨h1, h2, -⟩ := first_all h hd
      split
      · exact Nat.le_refl _
      · have h3 := nAct_expK lim k (offS M s d) (ops ++ [⟨d, false, exy M s d⟩]) (up_off h h2)
        have h4 := nAct_off h1 (idl_act h2)
        omega
theorem expK_up (lim : Nat) : ∀ (k : Nat) (s : RS) (ops : List POp), Up M s → Up M (expK M lim k s ops).1
  | 0, _, _, h => h
  | k + 1, s, ops, h => by
    unfold expK
    split
    · exact h
    · rename_i d hd
      split
      · exact h
      · exact expK_up lim k _ _ (up_off h (first_all h hd).2.1)
theorem expK_fuel (lim : Nat) : ∀ (k : Nat) (s : RS) (ops : List POp), nAct M s < k → Up M s → expK M lim (k + 1) s ops = expK M lim k s ops
  | 0, _, _, h, _ => by omega
  | k + 1, s, ops, h, hu => by
    rw [expK, expK]
    cases hf : fstM M s with
    | none => rfl
    | some d =>
      obtain ⟨h1, h2, -⟩ := first_all hu hf
      simp only
      split
      · rfl
      · exact expK_fuel lim k _ _ (by have := nAct_off h1 (idl_act h2); omega) (up_off hu h2)
theorem expK_split {t u : Nat} (htu : t ≤ u) : ∀ (k : Nat) (s : RS) (ops : List POp), nAct M s < k → Up M s → expK M u k (expK M t k s ops).1 (expK M t k s ops).2 = expK M u k s ops
  | 0, _, _, h, _ => by omega
  | k + 1, s, ops, h, hu => by
    cases hf : fstM M s with
    | none =>
      have e : expK M t (k + 1) s ops = (s, ops) := by rw [expK, hf]
      rw [e]
    | some d =>
      obtain ⟨h1, h2, -⟩ := first_all hu hf
      have hn := nAct_off h1 (idl_act h2)
      by_cases hx : t < exy M s d
      · have e : expK M t (k + 1) s ops = (s, ops) := by rw [expK, hf]; simp only; rw [if_pos hx]
        rw [e]
      · have e : expK M t (k + 1) s ops = expK M t k (offS M s d) (ops ++ [⟨d, false, exy M s d⟩]) := by rw [expK, hf]; simp only; rw [if_neg hx]
        have e2 : expK M u (k + 1) s ops = expK M u k (offS M s d) (ops ++ [⟨d, false, exy M s d⟩]) := by rw [expK, hf]; simp only; rw [if_neg (by omega)]
        have hu2 := up_off hu h2
        have h3 := nAct_expK t k (offS M s d) (ops ++ [⟨d, false, exy M s d⟩]) hu2
        rw [e, e2, expK_fuel u k _ _ (by omega) (expK_up t k _ _ hu2)]
        exact expK_split htu k _ _ (by omega) hu2
theorem adv_split (h : Up M s) {t u : Nat} (htu : t ≤ u) : (advM M s t).2 ++ (advM M (advM M s t).1 u).2 = (advM M s u).2 := by
  have hn := nAct_le M s
  unfold advM expM
  have e1 := expK_acc (M := M) u (expK M t (M.n + 1) { s with clk := t } []).2 (M.n + 1) { (expK M t (M.n + 1) { s with clk := t } []).1 with clk := u } []
  rw [List.append_nil] at e1
  have e2 := congrArg Prod.snd e1
  simp only at e2
  rw [← e2]
  rw [expK_clk (M := M) u u (M.n + 1) (expK M t (M.n + 1) { s with clk := t } []).1]
  simp only
  rw [expK_split htu (M.n + 1) { s with clk := t } [] (by show nAct M s < _; omega) (h.tick t)]
  exact (congrArg Prod.snd (expK_clk (M := M) u t (M.n + 1) s [])).trans (congrArg Prod.snd (expK_clk (M := M) u u (M.n + 1) s [])).symm
theorem late_none {lim t : Nat} (h : Up M s) (hl : Late M s t) (ht : lim < t) (k : Nat) (ops : List POp) : expK M lim k s ops = (s, ops) := by
  cases k with
  | zero => rfl
  | succ k =>
    unfold expK
    split
    · rfl
    · rename_i d hd
      have := hl d (first_all h hd).2.1
      rw [if_pos (by omega)]
theorem none_none {lim : Nat} (hf : fstM M s = none) (k : Nat) (ops : List POp) : expK M lim k s ops = (s, ops) := by
  cases k with
  | zero => rfl
  | succ k => rw [expK, hf]
theorem expK_at {t : Nat} : ∀ (k : Nat) (s : RS) (ops : List POp), Up M s → Late M s t → ∀ o ∈ (expK M t k s ops).2, o ∈ ops ∨ (o.res = false ∧ o.tm = t)
  | 0, _, _, _, _, o, ho => .inl ho
  | k + 1, s, ops, hu, hl, o, ho => by
    unfold expK at ho
    split at ho
    · exact .inl ho
    · rename_i d hd
      obtain ⟨h1, h2, -⟩ := first_all hu hd
      have h3 := hl d h2
      split at ho
      · exact .inl ho
      · rcases expK_at k _ _ (up_off hu h2) ((late_off hu hd).le h3) o ho with h4 | h4
        · rcases List.mem_append.1 h4 with h5 | h5
          · exact .inl h5
          · rw [List.mem_singleton.1 h5]
            exact .inr ⟨rfl, by show exy M s d = t; omega⟩
        · exact .inr h4
theorem expK_more (lim : Nat) : ∀ (k : Nat) (s : RS) (ops : List POp), ops.length ≤ (expK M lim k s ops).2.length
  | 0, _, _ => Nat.le_refl _
  | k + 1, s, ops => by
    unfold expK
    split
    · exact Nat.le_refl _
    · split
      · exact Nat.le_refl _
      · refine Nat.le_trans ?_ (expK_more lim k _ _)
        simp
/-- Up to the next expiry nothing happens; at it something does. -/
theorem next_law (h : Good M s) {d : Nat} (hf : fstM M s = some d) : s.clk < exy M s d ∧ advM M s (exy M s d - 1) = ({ s with clk := exy M s d - 1 }, []) ∧
    (advM M { s with clk := exy M s d - 1 } (exy M s d)).2 ≠ [] ∧ ∀ o ∈ (advM M { s with clk := exy M s d - 1 } (exy M s d)).2, o.res = false ∧ o.tm = exy M s d := by
  obtain ⟨h1, h2, h3⟩ := first_all h.up hf
  have h4 := h.late d h2
  refine ⟨h4, late_none (h.up.tick _) (h3.tick _) (by omega) _ _, fun he => ?_, fun o ho => ?_⟩
  · have hf2 : fstM M { s with clk := exy M s d } = some d := (fstTo_clk (M := M) (exy M s d) s M.n).trans hf
    have e : advM M { s with clk := exy M s d - 1 } (exy M s d) = expK M (exy M s d) M.n (offS M { s with clk := exy M s d } d) ([] ++ [⟨d, false, exy M s d⟩]) := by
      unfold advM expM
      show expK M (exy M s d) (M.n + 1) { s with clk := exy M s d } [] = _
      rw [expK, hf2]
      simp only
      rw [if_neg (by show ¬ exy M s d < exy M s d; omega)]
      rfl
    have h5 := expK_more (M := M) (exy M s d) M.n (offS M { s with clk := exy M s d } d) ([] ++ [⟨d, false, exy M s d⟩])
    rw [← e, he] at h5
    simp at h5
  · rcases expK_at (M.n + 1) _ [] ((h.up.tick _).tick _) ((h3.tick _).tick _) o ho with h5 | h5
    · cases h5
    · exact h5
theorem next_none (hf : fstM M s = none) (u : Nat) : advM M s u = ({ s with clk := u }, []) := none_none ((fstTo_clk (M := M) u s M.n).trans hf) _ _
/-- All idle times lie at t or earlier. -/
def SinLe (s : RS) (t : Nat) : Prop := ∀ i, s.sin i ≤ t
theorem expK_sin {lim t : Nat} (hl : lim ≤ t) : ∀ (k : Nat) (s : RS) (ops : List POp), SinLe s t → SinLe (expK M lim k s ops).1 t
  | 0, _, _, h => h
  | k + 1, s, ops, h => by
    unfold expK
    split
    · exact h
    · rename_i d hd
      split
      · exact h
      · refine expK_sin hl k _ _ (fun i => ?_)
        rw [offS_sin]
        split
        · omega
        · exact h i
theorem SinLe.mono {t u : Nat} (h : SinLe s t) (k : t ≤ u) : SinLe s u := fun i => Nat.le_trans (h i) k
theorem adv_sin {t : Nat} (h : SinLe s s.clk) (ht : s.clk ≤ t) : SinLe (advM M s t).1 t := expK_sin (Nat.le_refl t) _ _ _ (h.mono ht)
theorem put_sin {t : Nat} (d : Nat) (h : SinLe s s.clk) (ht : s.clk ≤ t) : SinLe (putM M s d t).1 t := by
  unfold putM
  have h1 : SinLe (expM M t { s with clk := t } []).1 t := expK_sin (M := M) (Nat.le_refl t) _ { s with clk := t } [] (h.mono ht)
  generalize expM M t { s with clk := t } [] = E at h1 ⊢
  refine expK_sin (Nat.le_refl t) _ _ _ (fun i => ?_)
  unfold idleS
  split
  · show setF E.1.sin d t i ≤ t
    unfold setF
    split
    · exact Nat.le_refl _
    · exact h1 i
  · exact h1 i
theorem onAll_sin (r : Nat → Bool) (now : Nat) (l : List Nat) : ∀ (p : RS × List POp), (l.foldl (onStep r now) p).1.sin = p.1.sin := by
  induction l with
  | nil => intro p; rfl
  | cons a l ih =>
    intro p
    rw [List.foldl_cons, ih]
    unfold onStep
    split <;> rfl
theorem get_sin {t : Nat} (d : Nat) (h : SinLe s s.clk) (ht : s.clk ≤ t) : SinLe (getM M s d t).1 t := by
  unfold getM
  have h1 : SinLe (expM M t { s with clk := t } []).1 t := expK_sin (M := M) (Nat.le_refl t) _ { s with clk := t } [] (h.mono ht)
  generalize expM M t { s with clk := t } [] = E at h1 ⊢
  intro i
  rw [onAll_sin]
  exact h1 i
/-- Where nothing is idle and nothing is in use, nothing is active. -/
theorem none_act (hO : Ordd M) (hu : Up M s) (h0 : ∀ i, s.use i = 0) (hn : ∀ i, idl M s i = false) (i : Nat) : s.act i = false := by
  have key : ∀ (j : Nat), j ≤ M.ord.length → ∀ x ∈ M.ord.drop (M.ord.length - j), s.act x = false := by
    intro j
    induction j with
    | zero => intro _ x hx; rw [Nat.sub_zero, List.drop_length] at hx; cases hx
    | succ j ih =>
      intro hj x hx
      obtain ⟨v, hv⟩ : ∃ v, M.ord[M.ord.length - (j + 1)]? = some v := ⟨_, List.getElem?_eq_getElem (by omega)⟩
      obtain ⟨e1, e2⟩ := List.getElem?_eq_some_iff.1 hv
      rw [List.drop_eq_getElem_cons e1, e2, show M.ord.length - (j + 1) + 1 = M.ord.length - j by omega] at hx
      rcases List.mem_cons.1 hx with rfl | hx
      · cases ha : s.act x with
        | false => rfl
        | true =>
          exfalso
          have h1 : idl M s x = true := idl_iff.2 ⟨ha, h0 x, fun c hc => by
            obtain ⟨k, hk⟩ := List.getElem?_of_mem (hO.all c (hO.lt _ hc).1)
            have h2 := hO.pre k c hk _ hc rfl
            obtain ⟨q, hq⟩ := List.getElem?_of_mem h2
            rw [List.getElem?_take] at hq
            split at hq
            · rename_i hql
              have h3 := idx_inj hO.nodup hq hv
              refine ih (by omega) c (List.mem_of_getElem? (i := k - (M.ord.length - j)) ?_)
              rw [List.getElem?_drop, show M.ord.length - j + (k - (M.ord.length - j)) = k by omega]
              exact hk
            · cases hq⟩
          rw [hn x] at h1
          cases h1
      · exact ih (by omega) x hx
  cases ha : s.act i with
  | false => rfl
  | true =>
    have h1 := key M.ord.length (Nat.le_refl _) i (by rw [Nat.sub_self, List.drop_zero]; exact hO.all i (hu.dom i ha))
    rw [h1] at ha
    cases ha
theorem all_off (hO : Ordd M) (hd : ∀ i, M.dl i ≤ 11) {lim : Nat} : ∀ (k : Nat) (s : RS) (ops : List POp) (B : Nat), Up M s → (∀ i, s.use i = 0) → SinLe s B → nAct M s < k → B + 11 * nAct M s ≤ lim → ∀ i, (expK M lim k s ops).1.act i = false
  | 0, _, _, _, _, _, _, h, _, _ => by omega
  | k + 1, s, ops, B, hu, h0, hs, hk, hB, i => by
    unfold expK
    split
    · rename_i hn
      exact none_act hO hu h0 (first_none hu hn) i
    · rename_i d hf
      obtain ⟨h1, h2, -⟩ := first_all hu hf
      have h3 := nAct_off h1 (idl_act h2)
      have h4 : exy M s d ≤ B + 11 := by
        have := hs d
        have := hd d
        unfold exy
        omega
      rw [if_neg (by omega)]
      refine all_off hO hd k _ _ (B + 11) (up_off hu h2) (fun i => by rw [(offS_act d).2.1]; exact h0 i) (fun i => ?_) (by omega) (by omega) i
      rw [offS_sin]
      split
      · exact h4
      · have := hs i
        omega
/-- All uses have ended: 200 later nothing is active and nothing expires. -/
theorem suspends_law (hO : Ordd M) (hn : M.n ≤ 8) (hd : ∀ i, M.dl i ≤ 11) (h : Good M s) (h0 : ∀ i, s.use i = 0) (hs : SinLe s s.clk) : (∀ i, (advM M s (s.clk + 200)).1.act i = false) ∧ fstM M (advM M s (s.clk + 200)).1 = none := by
  have h1 : ∀ i, (advM M s (s.clk + 200)).1.act i = false := all_off hO hd (M.n + 1) { s with clk := s.clk + 200 } [] s.clk (h.up.tick _) h0 hs (by show nAct M s < _; have := nAct_le M s; omega) (by show s.clk + 11 * nAct M s ≤ _; have := nAct_le M s; omega)
  refine ⟨h1, ?_⟩
  cases hf : fstM M (advM M s (s.clk + 200)).1 with
  | none => rfl
  | some d =>
    have h2 := idl_act (fstTo_some hf).2.1
    rw [h1 d] at h2
    cases h2
/-- Without delays the active devices are those in use and those that they require. -/
theorem closure_law (hO : Ordd M) (hd : ∀ i, M.dl i = 0) (h : Good M s) (hs : SinLe s s.clk) (i : Nat) : s.act i = true ↔ ∃ k, 0 < s.use k ∧ (i = k ∨ Req M.L k i) := by
  have hidle : ∀ i, idl M s i = false := fun i => by
    cases hi : idl M s i with
    | false => rfl
    | true =>
      have h1 := h.late i hi
      have h2 := hs i
      unfold exy at h1
      rw [hd i] at h1
      omega
  constructor
  · have key : ∀ (j : Nat), j ≤ M.ord.length → ∀ x ∈ M.ord.drop (M.ord.length - j), s.act x = true → ∃ k, 0 < s.use k ∧ (x = k ∨ Req M.L k x) := by
      intro j
      induction j with
      | zero => intro _ x hx; rw [Nat.sub_zero, List.drop_length] at hx; cases hx
      | succ j ih =>
        intro hj x hx ha
        obtain ⟨v, hv⟩ : ∃ v, M.ord[M.ord.length - (j + 1)]? = some v := ⟨_, List.getElem?_eq_getElem (by omega)⟩
        obtain ⟨e1, e2⟩ := List.getElem?_eq_some_iff.1 hv
        rw [List.drop_eq_getElem_cons e1, e2, show M.ord.length - (j + 1) + 1 = M.ord.length - j by omega] at hx
        rcases List.mem_cons.1 hx with rfl | hx
        · by_cases h0 : s.use x = 0
          · have h1 : ¬ ∀ c, (c, x) ∈ M.L → s.act c = false := fun hall => by
              have := idl_iff.2 ⟨ha, h0, hall⟩
              rw [hidle x] at this
              cases this
            obtain ⟨c, hc⟩ := Classical.not_forall.1 h1
            obtain ⟨hc, hca⟩ := Classical.not_imp.1 hc
            have hca : s.act c = true := by cases h : s.act c with
              | true => rfl
              | false => exact absurd h hca
            obtain ⟨k, hk⟩ := List.getElem?_of_mem (hO.all c (hO.lt _ hc).1)
            have h2 := hO.pre k c hk _ hc rfl
            obtain ⟨q, hq⟩ := List.getElem?_of_mem h2
            rw [List.getElem?_take] at hq
            split at hq
            · rename_i hql
              have h3 := idx_inj hO.nodup hq hv
              obtain ⟨m, hm1, hm2⟩ := ih (by omega) c (List.mem_of_getElem? (i := k - (M.ord.length - j)) (by rw [List.getElem?_drop, show M.ord.length - j + (k - (M.ord.length - j)) = k by omega]; exact hk)) hca
              refine ⟨m, hm1, .inr ?_⟩
              rcases hm2 with rfl | hm2
              · exact .one hc
              · exact hm2.trans (.one hc)
            · cases hq
          · exact ⟨x, by omega, .inl rfl⟩
        · exact ih (by omega) x hx ha
    intro ha
    exact key M.ord.length (Nat.le_refl _) i (by rw [Nat.sub_self, List.drop_zero]; exact hO.all i (h.up.dom i ha)) ha
  · rintro ⟨k, hk, rfl | hr⟩
    · exact h.up.use i hk
    · have key : ∀ {a b : Nat}, Req M.L a b → s.act a = true → s.act b = true := by
        intro a b hr
        induction hr with
        | one hL => exact fun ha => h.up.sup _ hL ha
        | step hL _ ih => exact fun ha => ih (h.up.sup _ hL ha)
      exact key hr (h.up.use k hk)
end
end Go.Proofs.Ytdocdgghphhdpaa

