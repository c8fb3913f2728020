/- Plain: a device tree driven by a sequence over its devices. -/
import Derived.Test.YtdocdgghphhdpaaMgSuspFail19
import Derived.Test.YtdocdgghphhdpaaSuspP3Mg
namespace Go.Proofs.Ytdocdgghphhdpaa
open Go.RowKit

/-- The state of device p after k operations of a sequence over n devices, parents first. -/
def stS (n k p : Nat) : Nat := if k ≤ 2 * n then 0 else if k ≤ 3 * n then (if 3 * n ≤ p + k then 4 else 0) else if k ≤ 5 * n then 4 else (if p + 5 * n < k then 0 else 4)
structure SuI (C : TC) (k : Nat) (s : TSt) : Prop where
  inv : TInv C s
  st : ∀ p, p < C.nd → s.st p = stS C.nd k p
  clk : s.clk ≤ k
/-- While all are put into D0. -/
structure SuJ (C : TC) (i : Nat) (s : TSt) : Prop where
  inv : TInv C s
  st : ∀ p, s.st p = if p < i then 0 else 4
  clk : s.clk ≤ 0
theorem set_ok {C : TC} {s : TSt} {now p k : Nat} (hp : p < C.nd) (hk : k ≤ 4) (hnb : ¬ Blocked C s p k) (hclk : s.clk ≤ now) (hnow : now ≤ MaxT) :
    (setM C now (p : Int) (k : Int) s).2.2 = 0 ∧ (setM C now (p : Int) (k : Int) s).1.st = rup s.st p k ∧ (setM C now (p : Int) (k : Int) s).1.clk = now := by
  rw [setM, if_neg (by omega), Int.toNat_natCast, Int.toNat_natCast, if_neg hnb]
  exact ⟨rfl, rfl, rfl⟩
theorem suj_start (C : TC) : SuJ C 0 tsz := ⟨tsz_inv C, fun p => by simp; rfl, Nat.zero_le _⟩
theorem suj_step {C : TC} (hC : TOk C) {i : Nat} {s : TSt} (h : SuJ C i s) (hi : i < C.nd) : (setM C 0 (i : Int) 0 s).2.2 = 0 ∧ SuJ C (i + 1) (setM C 0 (i : Int) 0 s).1 := by
  have hclk := h.clk
  have hnb : ¬ Blocked C s i 0 := by
    rintro (⟨h1, h2⟩ | ⟨c, _, _, h3⟩)
    · have hp := hC.par i hi
      rw [h.st, if_pos (by omega)] at h2
      omega
    · omega
  obtain ⟨e1, e2, e3⟩ := set_ok (k := 0) hi (by omega) hnb hclk (Nat.zero_le _)
  rw [show (((0 : Nat) : Int)) = (0 : Int) from rfl] at e1 e2 e3
  refine ⟨e1, setM_inv hC h.inv _ _, fun p => ?_, by rw [e3]; exact Nat.le_refl _⟩
  rw [e2]
  by_cases e : p = i
  · subst e
    rw [rup_same, if_pos (by omega)]
  · rw [rup_other e, h.st p]
    by_cases h1 : p < i
    · rw [if_pos h1, if_pos (by omega)]
    · rw [if_neg h1, if_neg (by omega)]
theorem suj_done {C : TC} {s : TSt} (h : SuJ C C.nd s) : SuI C 0 s := ⟨h.inv, fun p hp => by rw [h.st, if_pos hp, stS, if_pos (by omega)], h.clk⟩
theorem devAt_id {n ph po : Nat} (hpo : po < n) : devAt (List.range n) ph po = if rev ph then n - 1 - po else po := by
  unfold devAt
  rw [List.length_range]
  split
  · rw [List.getD_eq_getElem?_getD, List.getElem?_range (by omega)]
    rfl
  · rw [List.getD_eq_getElem?_getD, List.getElem?_range hpo]
    rfl
/-- The operations that turn nothing. -/
theorem su_skip {C : TC} {k : Nat} {s : TSt} (h : SuI C k s) (hn : 0 < C.nd) (h3 : ¬ k / C.nd = 2) (h6 : ¬ k / C.nd = 5) : SuI C (k + 1) s := by
  refine ⟨h.inv, fun p hp => ?_, Nat.le_succ_of_le h.clk⟩
  rw [h.st p hp]
  have e1 : ¬ (2 * C.nd ≤ k ∧ k < 3 * C.nd) := fun hh => h3 (by
    rw [Nat.div_eq_iff hn]
    omega)
  have e2 : ¬ (5 * C.nd ≤ k ∧ k < 6 * C.nd) := fun hh => h6 (by
    rw [Nat.div_eq_iff hn]
    omega)
  by_cases c1 : k < 2 * C.nd
  · rw [stS, stS, if_pos (by omega), if_pos (by omega)]
  · by_cases c2 : k < 5 * C.nd
    · have hnew : stS C.nd (k + 1) p = 4 := by rw [stS, if_neg (by omega), if_neg (by omega), if_pos (by omega)]
      rw [hnew, stS, if_neg (by omega)]
      by_cases c3 : k ≤ 3 * C.nd
      · rw [if_pos c3, if_pos (by omega)]
      · rw [if_neg c3, if_pos (by omega)]
    · have hnew : stS C.nd (k + 1) p = 0 := by rw [stS, if_neg (by omega), if_neg (by omega), if_neg (by omega), if_pos (by omega)]
      rw [hnew, stS, if_neg (by omega), if_neg (by omega), if_neg (by omega), if_pos (by omega)]
theorem su_off {C : TC} (hC : TOk C) {k : Nat} {s : TSt} (h : SuI C k s) (hn : 0 < C.nd) (hnd : C.nd ≤ 6) (h3 : k / C.nd = 2) (hk : k < 8 * C.nd) :
    (opAt (List.range C.nd) k).1 = 3 ∧ (opAt (List.range C.nd) k).2 < C.nd ∧ (setM C k ((opAt (List.range C.nd) k).2 : Int) 4 s).2.2 = 0 ∧ SuI C (k + 1) (setM C k ((opAt (List.range C.nd) k).2 : Int) 4 s).1 := by
  have hm := Nat.mod_lt k hn
  have hdm := Nat.div_add_mod k C.nd
  rw [h3] at hdm
  have hop : opAt (List.range C.nd) k = (3, C.nd - 1 - k % C.nd) := by
    unfold opAt
    rw [List.length_range, h3, devAt_id hm]
    rfl
  rw [hop]
  simp only
  generalize k % C.nd = i at hm hdm
  have hd : C.nd - 1 - i < C.nd := by omega
  generalize hde : C.nd - 1 - i = d at hd
  have hclk := h.clk
  have hkk : k = 2 * C.nd + i := by
    have : C.nd * 2 = 2 * C.nd := Nat.mul_comm _ _
    omega
  have hnb : ¬ Blocked C s d 4 := by
    rintro (⟨_, h2⟩ | ⟨c, hc, h2, h3⟩)
    · have := h.inv.st4 (C.par d).toNat
      omega
    · have hp := hC.par c hc
      rw [h.st c hc, stS] at h3
      split at h3
      · omega
      · rw [if_pos (by omega), if_pos (by omega)] at h3
        omega
  obtain ⟨e1, e2, e3⟩ := set_ok (k := 4) hd (by omega) hnb hclk (by unfold MaxT; omega)
  rw [show (((4 : Nat) : Int)) = (4 : Int) from rfl] at e1 e2 e3
  refine ⟨trivial, hd, e1, setM_inv hC h.inv _ _, fun p hp => ?_, by rw [e3]; omega⟩
  rw [e2]
  have hnew : stS C.nd (k + 1) p = if 3 * C.nd ≤ p + (k + 1) then 4 else 0 := by rw [stS, if_neg (by omega), if_pos (by omega)]
  rw [hnew]
  by_cases e : p = d
  · subst e
    rw [rup_same, if_pos (by omega)]
  · rw [rup_other e, h.st p hp, stS]
    by_cases h2 : k ≤ 2 * C.nd
    · rw [if_pos h2, if_neg (by omega)]
    · rw [if_neg h2, if_pos (by omega)]
      by_cases h4 : 3 * C.nd ≤ p + k
      · rw [if_pos h4, if_pos (by omega)]
      · rw [if_neg h4, if_neg (by omega)]
theorem su_on {C : TC} (hC : TOk C) {k : Nat} {s : TSt} (h : SuI C k s) (hn : 0 < C.nd) (hnd : C.nd ≤ 6) (h3 : k / C.nd = 5) :
    (opAt (List.range C.nd) k).1 = 6 ∧ (opAt (List.range C.nd) k).2 < C.nd ∧ (setM C k ((opAt (List.range C.nd) k).2 : Int) 0 s).2.2 = 0 ∧ SuI C (k + 1) (setM C k ((opAt (List.range C.nd) k).2 : Int) 0 s).1 := by
  have hm := Nat.mod_lt k hn
  have hdm := Nat.div_add_mod k C.nd
  rw [h3] at hdm
  have hop : opAt (List.range C.nd) k = (6, k % C.nd) := by
    unfold opAt
    rw [List.length_range, h3, devAt_id hm]
    rfl
  rw [hop]
  simp only
  generalize k % C.nd = i at hm hdm
  have hclk := h.clk
  have hkk : k = 5 * C.nd + i := by
    have : C.nd * 5 = 5 * C.nd := Nat.mul_comm _ _
    omega
  have hold : ∀ p, stS C.nd k p = if k ≤ 5 * C.nd then 4 else (if p + 5 * C.nd < k then 0 else 4) := fun p => by
    rw [stS, if_neg (by omega), if_neg (by omega)]
  have hnb : ¬ Blocked C s i 0 := by
    rintro (⟨h1, h2⟩ | ⟨c, hc, h2, h3⟩)
    · have hp := hC.par i hm
      rw [h.st _ (by omega), hold, if_neg (by omega), if_pos (by omega)] at h2
      omega
    · omega
  obtain ⟨e1, e2, e3⟩ := set_ok (k := 0) hm (by omega) hnb hclk (by unfold MaxT; omega)
  rw [show (((0 : Nat) : Int)) = (0 : Int) from rfl] at e1 e2 e3
  refine ⟨trivial, hm, e1, setM_inv hC h.inv _ _, fun p hp => ?_, by rw [e3]; omega⟩
  rw [e2]
  have hnew : stS C.nd (k + 1) p = if p + 5 * C.nd < k + 1 then 0 else 4 := by rw [stS, if_neg (by omega), if_neg (by omega), if_neg (by omega)]
  rw [hnew]
  by_cases e : p = i
  · subst e
    rw [rup_same, if_pos (by omega)]
  · rw [rup_other e, h.st p hp, hold]
    by_cases h2 : k ≤ 5 * C.nd
    · rw [if_pos h2, if_neg (by omega)]
    · rw [if_neg h2]
      by_cases h4 : p + 5 * C.nd < k
      · rw [if_pos h4, if_pos (by omega)]
      · rw [if_neg h4, if_neg (by omega)]
theorem su_asleep {C : TC} {s : TSt} (h : SuI C (4 * C.nd) s) (hn : 0 < C.nd) : ∀ p, p < C.nd → s.st p = 4 := fun p hp => by
  rw [h.st p hp, stS, if_neg (by omega), if_neg (by omega), if_pos (by omega)]
theorem su_end {C : TC} {s : TSt} (h : SuI C (8 * C.nd) s) : ∀ p, p < C.nd → s.st p = 0 := fun p hp => by
  rw [h.st p hp, stS, if_neg (by omega), if_neg (by omega), if_neg (by omega), if_pos (by omega)]
theorem useN_all4 {C : TC} {st : Nat → Nat} {j : Nat} : ∀ i, (∀ p, p < i → st p = 4) → useN C st j i = 0
  | 0, _ => rfl
  | i + 1, h => by
    rw [useN, useN_all4 i (fun p hp => h p (by omega)), h i (by omega)]
    simp [needL]
theorem all4_zero {C : TC} {s : TSt} {rk : Nat → Nat} (h : TInv C s) (h4 : ∀ p, p < C.nd → s.st p = 4) (hr : RankR C.n C.R rk) (hk : ∀ k, rk k ≤ 8) {j : Nat} (hj : j < C.n) : s.r.cnt j = 0 :=
  own_zero h.own (fun _ _ => useN_all4 C.nd h4) hr hk 8 j hj (by omega)
def SqP (S : Seq) (n k : Nat) : Prop := (k ≤ 4 * n → Dn S (List.range n) k) ∧ (4 * n < k → Un S ((fullUp (List.range n)).drop (k - 4 * n)) 0)
structure SuMid (S : Seq) (n k lo : Nat) : Prop where
  ok : S.Ok
  low : S.lo = lo
  next : S.next = (opAt (List.range n) k, true)
  cmp : (S.complete 0).2 = 0 ∧ (S.complete 0).1.Ok ∧ (S.complete 0).1.lo = lo ∧ SqP (S.complete 0).1 n (k + 1)
theorem skip_lo (S : Seq) : S.skip.lo = S.lo := rfl
theorem complete_lo (S : Seq) (r : Int) : (S.complete r).1.lo = S.lo := by
  unfold Seq.complete
  repeat (first | rfl | split | (unfold Seq.down; split) | (unfold Seq.up) | (unfold Seq.undo))
theorem wake_lo (S : Seq) : S.wake.1.lo = S.lo := by
  unfold Seq.wake
  split <;> rfl
theorem full_at {n k : Nat} (h1 : 4 * n ≤ k) (h2 : k < 8 * n) : (fullUp (List.range n)).drop (k - 4 * n) = opAt (List.range n) k :: (fullUp (List.range n)).drop (k + 1 - 4 * n) := by
  have hr := full_rows (List.range n)
  rw [List.length_range] at hr
  have hd : (downL (List.range n)).length = 4 * n := by simp [downL]
  have hg : (fullUp (List.range n))[k - 4 * n]? = some (opAt (List.range n) k) := by
    have h3 : ((List.range (8 * n)).map (opAt (List.range n)))[k]? = some (opAt (List.range n) k) := by simp [h2]
    rw [hr, List.getElem?_append_right (by omega), hd] at h3
    exact h3
  obtain ⟨hl, he⟩ := List.getElem?_eq_some_iff.1 hg
  rw [List.drop_eq_getElem_cons hl, he, show k - 4 * n + 1 = k + 1 - 4 * n by omega]
theorem mid_dn {S : Seq} {n k lo : Nat} (h : Dn S (List.range n) k) (hlo : S.lo = lo) (hk : k < 4 * n) : SuMid S n k lo := by
  have hk' : k < 4 * (List.range n).length := by rw [List.length_range]; exact hk
  obtain ⟨h1, h2⟩ := h.step hk'
  refine ⟨h.ok, hlo, h.next hk', by rw [h1], Seq.complete_ok h.ok 0, by rw [complete_lo, hlo], fun _ => by rw [h1]; exact h2, fun h3 => by omega⟩
theorem mid_un {S : Seq} {n k lo : Nat} (h : Un S ((fullUp (List.range n)).drop (k - 4 * n)) 0) (hlo : S.lo = lo) (h4 : 4 * n ≤ k) (hk : k < 8 * n) : SuMid S n k lo := by
  have hn := h
  rw [full_at h4 hk] at hn
  obtain ⟨h1, h2⟩ := hn.step 0
  refine ⟨hn.ok, hlo, hn.next, h1, Seq.complete_ok hn.ok 0, by rw [complete_lo, hlo], fun h3 => by omega, fun _ => ?_⟩
  simpa using h2
theorem wake_un {S : Seq} {n lo : Nat} (h : Dn S (List.range n) (4 * n)) (hlo : S.lo = lo) : S.wake.2 = 0 ∧ Un S.wake.1 (fullUp (List.range n)) 0 ∧ S.wake.1.lo = lo := by
  have ho : OkOrd (List.range n) := by rw [← h.ord]; exact h.ok.ord
  obtain ⟨h1, h2⟩ := h.wake List.nodup_range (by rw [List.length_range])
  have h3 := undoPlan_full List.nodup_range ho
  rw [List.length_range] at h3
  rw [h3] at h2
  exact ⟨h1, h2, by rw [wake_lo, hlo]⟩
end Go.Proofs.Ytdocdgghphhdpaa

