/- Plain laws of Reduce: the reduced links require the same, and none of them can be left out. No program is in sight here. -/
import Derived.Test.YtnfhiadhpbojkaaRedPMg
import Derived.Test.YtnfhiadhpbojkaaMgDepgraphMinimal6
namespace Go.Proofs.Ytnfhiadhpbojkaa

section
variable {N : Nat} {L R : List (Nat × Nat)}
/-- How many nodes lie between. -/
def btw (N : Nat) (L : List (Nat × Nat)) (a b : Nat) : Nat := ((List.range N).filter fun x => wmat L N a x && wmat L N x b).length
theorem filter_lt {l : List Nat} {f g : Nat → Bool} (h : ∀ x ∈ l, f x = true → g x = true) {y : Nat} (hy : y ∈ l) (h1 : g y = true) (h2 : f y = false) : (l.filter f).length < (l.filter g).length := by
  induction l with
  | nil => cases hy
  | cons a l ih =>
    have hle : (l.filter f).length ≤ (l.filter g).length := by
      clear ih hy
      have h' : ∀ x ∈ l, f x = true → g x = true := fun x hx => h x (List.mem_cons_of_mem _ hx)
      clear h
      induction l with
      | nil => exact Nat.le_refl _
      | cons b l ihl =>
        have := ihl (fun x hx => h' x (List.mem_cons_of_mem _ hx))
        have hb := h' b (List.mem_cons_self ..)
        cases hf : f b <;> cases hg : g b <;> simp [hf, hg] at hb ⊢ <;> omega
    rcases List.mem_cons.1 hy with e | hy'
    · subst e
      simp [h1, h2]
      omega
    · have hlt := ih (fun x hx => h x (List.mem_cons_of_mem _ hx)) hy'
      have ha := h a (List.mem_cons_self ..)
      cases hf : f a <;> cases hg : g a <;> simp [hf, hg] at ha ⊢ <;> omega
theorem req_lt (hL : ∀ p ∈ L, p.1 < N ∧ p.2 < N) {a b : Nat} (h : Req L a b) : a < N ∧ b < N := by
  induction h with
  | one h => exact hL _ h
  | step h _ ih => exact ⟨(hL _ h).1, ih.2⟩
/-- The reduced links. -/
def IsRed (N : Nat) (L R : List (Nat × Nat)) : Prop := ∀ c s, (c, s) ∈ R ↔ (c, s) ∈ L ∧ indB N L c s = false
theorem red_req (hL : ∀ p ∈ L, p.1 < N ∧ p.2 < N) (ha : Acyc L) (hR : IsRed N L R) {a b : Nat} : Req R a b ↔ Req L a b := by
  constructor
  · intro h
    induction h with
    | one h => exact .one ((hR _ _).1 h).1
    | step h _ ih => exact .step ((hR _ _).1 h).1 ih
  · have key : ∀ (m a b : Nat), btw N L a b ≤ m → Req L a b → Req R a b := by
      intro m
      induction m with
      | zero =>
        intro a b hm h
        have hno : ∀ x, ¬ (Req L a x ∧ Req L x b) := fun x ⟨h1, h2⟩ => by
          have hx := (req_lt hL h1).2
          have : x ∈ (List.range N).filter fun x => wmat L N a x && wmat L N x b := List.mem_filter.2 ⟨List.mem_range.2 hx, by rw [(wmat_iff hL).2 h1, (wmat_iff hL).2 h2]; rfl⟩
          have := List.length_pos_of_mem this
          unfold btw at hm
          omega
        cases h with
        | one h =>
          refine .one ((hR _ _).2 ⟨h, ?_⟩)
          rw [← Bool.not_eq_true, indB_iff hL]
          rintro ⟨t, h1, h2⟩
          exact hno t ⟨.one h1, h2⟩
        | step h k => exact absurd ⟨.one h, k⟩ (hno _)
      | succ m ih =>
        intro a b hm h
        by_cases hx : ∃ x, Req L a x ∧ Req L x b
        · obtain ⟨x, h1, h2⟩ := hx
          have hxN := (req_lt hL h1).2
          have hmem : x ∈ List.range N := List.mem_range.2 hxN
          have hxx : wmat L N x x = false := by
            rw [← Bool.not_eq_true, wmat_iff hL]
            exact ha x
          have hin : (wmat L N a x && wmat L N x b) = true := by rw [(wmat_iff hL).2 h1, (wmat_iff hL).2 h2]; rfl
          have l1 : btw N L a x < btw N L a b := filter_lt (fun y _ hy => by
            rw [Bool.and_eq_true, wmat_iff hL, wmat_iff hL] at hy ⊢
            exact ⟨hy.1, hy.2.trans h2⟩) hmem hin (by rw [hxx]; simp)
          have l2 : btw N L x b < btw N L a b := filter_lt (fun y _ hy => by
            rw [Bool.and_eq_true, wmat_iff hL, wmat_iff hL] at hy ⊢
            exact ⟨h1.trans hy.1, hy.2⟩) hmem hin (by rw [hxx]; simp)
          exact (ih a x (by omega) h1).trans (ih x b (by omega) h2)
        · cases h with
          | one h =>
            refine .one ((hR _ _).2 ⟨h, ?_⟩)
            rw [← Bool.not_eq_true, indB_iff hL]
            rintro ⟨t, h1, h2⟩
            exact hx ⟨t, .one h1, h2⟩
          | step h k => exact absurd ⟨_, .one h, k⟩ hx
    exact key _ a b (Nat.le_refl _)
theorem rch_red (hL : ∀ p ∈ L, p.1 < N ∧ p.2 < N) (ha : Acyc L) (hR : IsRed N L R) {of : List Nat} {v : Nat} : Rch R of v ↔ Rch L of v := by
  unfold Rch
  simp only [red_req hL ha hR]
/-- Without a link the consumer no longer requires its supplier. -/
theorem red_less (hL : ∀ p ∈ L, p.1 < N ∧ p.2 < N) (ha : Acyc L) (hR : IsRed N L R) {K : List (Nat × Nat)} {c s : Nat} (hcs : (c, s) ∈ R) (hK : ∀ p ∈ K, p ∈ R ∧ p ≠ (c, s)) : ¬ Rch K [c] s := by
  have hm : ∀ {a b : Nat}, Req K a b → Req L a b := fun {a b} h => by
    induction h with
    | one h => exact .one ((hR _ _).1 (hK _ h).1).1
    | step h _ ih => exact .step ((hR _ _).1 (hK _ h).1).1 ih
  rintro ⟨u, hu, e⟩
  rw [List.mem_singleton.1 hu] at e
  obtain ⟨h1, h2⟩ := (hR _ _).1 hcs
  rcases e with e | h
  · subst e
    exact ha _ (.one h1)
  · cases h with
    | one h => exact (hK _ h).2 rfl
    | step h k =>
      rw [← Bool.not_eq_true, indB_iff hL] at h2
      exact h2 ⟨_, ((hR _ _).1 (hK _ h).1).1, hm k⟩
end
theorem toNs_mem {l : List (Int × Int)} (hl : ∀ p ∈ l, 0 ≤ p.1 ∧ 0 ≤ p.2) {c s : Nat} : (c, s) ∈ toNs l ↔ lnk c s ∈ l := by
  unfold toNs
  rw [List.mem_map]
  constructor
  · rintro ⟨⟨a, b⟩, hp, e⟩
    have := hl _ hp
    unfold toN at e
    injection e with e1 e2
    simp only at e1 e2 this
    rw [show lnk c s = (a, b) from Prod.ext (by show ((c : Nat) : Int) = a; omega) (by show ((s : Nat) : Int) = b; omega)]
    exact hp
  · exact fun h => ⟨_, h, by unfold toN lnk; simp⟩
structure MinOk (N : Nat) (L : List (Nat × Nat)) (r : List (Int × Int)) : Prop where
  red : redM (N : Int) (ofNs L) = (r, 0)
  len : r.length ≤ N * N
  lnk : ∀ p ∈ r, LinkOk N p
  nd : r.Nodup
  isR : IsRed N L (toNs r)
theorem min_ok {N : Nat} {L : List (Nat × Nat)} (hL : ∀ p ∈ L, p.1 < N ∧ p.2 < N) (ha : Acyc L) (hn : L.Nodup) (hb : basicM (N : Int) (ofNs L) = 0) : MinOk N L (sortL (keptTo N L N)) := by
  have hg := (greedy_full hL).2 ha
  have hc : checkM (N : Int) (ofNs L) = 0 := by
    unfold checkM orderM
    rw [if_pos hb, Int.toNat_natCast, toNs_ofNs, if_pos hg]
  have hmem : ∀ p, p ∈ sortL (keptTo N L N) ↔ ∃ c s, c < N ∧ p = Go.Proofs.Ytnfhiadhpbojkaa.lnk c s ∧ (c, s) ∈ L ∧ indB N L c s = false := fun p => by
    unfold sortL
    rw [List.mem_mergeSort, mem_keptTo]
  have hlk : ∀ p ∈ sortL (keptTo N L N), LinkOk N p := fun p hp => by
    obtain ⟨c, s, hc, rfl, h1, -⟩ := (hmem p).1 hp
    have := hL _ h1
    unfold LinkOk Go.Proofs.Ytnfhiadhpbojkaa.lnk
    simp only at this ⊢
    omega
  refine ⟨by unfold redM; rw [if_pos hc, Int.toNat_natCast, toNs_ofNs], ?_, hlk, ?_, fun c s => ?_⟩
  · rw [← ref_sorted hL ha hn]
    exact refTo_len N L N
  · rw [← ref_sorted hL ha hn]
    exact List.Pairwise.imp (fun {a b} h e => by subst e; unfold LexL at h; omega) (refTo_pair N)
  · rw [toNs_mem (fun p hp => ⟨(hlk p hp).1, (hlk p hp).2.2.1⟩), hmem]
    constructor
    · rintro ⟨a, b, -, e, h1, h2⟩
      obtain ⟨rfl, rfl⟩ := lnk_inj e
      exact ⟨h1, h2⟩
    · rintro ⟨h1, h2⟩
      exact ⟨c, s, (hL _ h1).1, rfl, h1, h2⟩
section
variable {N : Nat} {L : List (Nat × Nat)} {r : List (Int × Int)}
theorem MinOk.basic (h : MinOk N L r) (hN : N ≤ 14) {k : List (Int × Int)} (hs : k.Sublist r) : basicM (N : Int) k = 0 := by
  have h1 := h.len
  have h2 := hs.length_le
  have h3 : N * N ≤ 14 * 14 := Nat.mul_le_mul hN hN
  exact basicM_ok ⟨by omega, by omega, by omega, fun p hp => h.lnk p (hs.subset hp)⟩ (hs.nodup h.nd)
theorem MinOk.clos (h : MinOk N L r) (hN : N ≤ 14) (hL : ∀ p ∈ L, p.1 < N ∧ p.2 < N) (ha : Acyc L) (hb : basicM (N : Int) (ofNs L) = 0) {v : Nat} (hv : v < N) : closM false (N : Int) r [(v : Int)] = closM false (N : Int) (ofNs L) [(v : Int)] ∧ (closM false (N : Int) (ofNs L) [(v : Int)]).2 = 0 := by
  have hin : ∀ x ∈ [(v : Int)], 0 ≤ x ∧ x < (N : Int) := fun x hx => by rw [List.mem_singleton.1 hx]; omega
  rw [closM_ok hb hin, closM_ok (h.basic hN (List.Sublist.refl _)) hin, toNs_ofNs]
  refine ⟨Prod.ext ?_ rfl, rfl⟩
  show (List.range N).filter _ = (List.range N).filter _
  apply List.filter_congr
  intro i hi
  rw [show ori false (toNs r) = toNs r from rfl, show ori false L = L from rfl, Bool.eq_iff_iff, rchB_iff (toNs_lt h.lnk), rchB_iff hL, rch_red hL ha h.isR]
theorem MinOk.none (h : MinOk N L r) (hL : ∀ p ∈ L, p.1 < N ∧ p.2 < N) (ha : Acyc L) (hr : r = []) : L = [] := by
  subst hr
  cases L with
  | nil => rfl
  | cons p L =>
    obtain ⟨a, b⟩ := p
    have h1 := (red_req hL ha h.isR).2 (.one (List.mem_cons_self ..))
    cases h1 with
    | one h => cases h
    | step h => cases h
/-- The k-th link and the links without it. -/
theorem MinOk.last (h : MinOk N L r) (hN : N ≤ 14) (hL : ∀ p ∈ L, p.1 < N ∧ p.2 < N) (ha : Acyc L) {k : Nat} {p : Int × Int} (hk : r[k]? = some p) :
    (closM false (N : Int) r [p.1]).2 = 0 ∧ p.2 ∈ (closM false (N : Int) r [p.1]).1.map Int.ofNat ∧ (closM false (N : Int) (r.take k ++ r.drop (k + 1)) [p.1]).2 = 0 ∧ p.2 ∉ (closM false (N : Int) (r.take k ++ r.drop (k + 1)) [p.1]).1.map Int.ofNat := by
  have hp := h.lnk p (List.mem_of_getElem? hk)
  obtain ⟨c, s⟩ := p
  obtain ⟨c, rfl⟩ := Int.eq_ofNat_of_zero_le hp.1
  obtain ⟨s, rfl⟩ := Int.eq_ofNat_of_zero_le hp.2.2.1
  have hin : ∀ x ∈ [((c : Nat) : Int)], 0 ≤ x ∧ x < (N : Int) := fun x hx => by rw [List.mem_singleton.1 hx]; exact ⟨hp.1, hp.2.1⟩
  have hsN : s < N := by have := hp.2.2.2; simp at this; omega
  have hsub : (r.take k ++ r.drop (k + 1)).Sublist r := by
    have h1 := split_at_some hk
    rw [h1]
    conv => lhs; rw [← h1]
    exact List.Sublist.append (List.Sublist.refl _) (List.sublist_cons_self _ _)
  have hcs : (c, s) ∈ toNs r := (toNs_mem (fun p hp => ⟨(h.lnk p hp).1, (h.lnk p hp).2.2.1⟩)).2 (List.mem_of_getElem? hk)
  have hlkK : ∀ p ∈ r.take k ++ r.drop (k + 1), LinkOk N p := fun p hp => h.lnk p (hsub.subset hp)
  show (closM false (N : Int) r [((c : Nat) : Int)]).2 = 0 ∧ ((s : Nat) : Int) ∈ (closM false (N : Int) r [((c : Nat) : Int)]).1.map Int.ofNat ∧ _
  rw [closM_ok (h.basic hN (List.Sublist.refl _)) hin, closM_ok (h.basic hN hsub) hin]
  have hone : [((c : Nat) : Int)].map Int.toNat = [c] := by simp
  rw [hone]
  refine ⟨rfl, ?_, rfl, fun hm => ?_⟩
  · refine List.mem_map.2 ⟨s, List.mem_filter.2 ⟨List.mem_range.2 hsN, ?_⟩, rfl⟩
    rw [show ori false (toNs r) = toNs r from rfl, rchB_iff (toNs_lt h.lnk)]
    exact ⟨c, by simp, .inr (.one hcs)⟩
  · obtain ⟨t, ht, e⟩ := List.mem_map.1 hm
    have e : t = s := by
      have : ((t : Nat) : Int) = (s : Int) := e
      omega
    subst e
    have h2 := (List.mem_filter.1 ht).2
    rw [show ori false (toNs (r.take k ++ r.drop (k + 1))) = toNs (r.take k ++ r.drop (k + 1)) from rfl, rchB_iff (toNs_lt hlkK)] at h2
    refine red_less hL ha h.isR hcs (fun q hq => ?_) h2
    obtain ⟨a, b⟩ := q
    have h3 := (toNs_mem (fun p hp => ⟨(hlkK p hp).1, (hlkK p hp).2.2.1⟩)).1 hq
    refine ⟨(toNs_mem (fun p hp => ⟨(h.lnk p hp).1, (h.lnk p hp).2.2.1⟩)).2 (hsub.subset h3), fun e => ?_⟩
    injection e with e1 e2
    subst e1 e2
    have hnd := h.nd
    rw [split_at_some hk, List.nodup_append] at hnd
    rcases List.mem_append.1 h3 with h4 | h4
    · exact hnd.2.2 _ h4 _ (List.mem_cons_self ..) rfl
    · exact (List.nodup_cons.1 hnd.2.1).1 h4
end
end Go.Proofs.Ytnfhiadhpbojkaa

