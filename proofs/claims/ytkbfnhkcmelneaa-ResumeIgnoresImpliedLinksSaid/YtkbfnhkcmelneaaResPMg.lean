/- Plain law: the reduced links give the same schedule. No program is in sight here. -/
import Derived.Test.YtkbfnhkcmelneaaRedW3Mg
import Derived.Test.YtkbfnhkcmelneaaMgResumeImplied4
namespace Go.Proofs.Ytkbfnhkcmelneaa

theorem lnk_inj {a b c d : Nat} (h : lnk a b = lnk c d) : a = c ∧ b = d := by
  unfold lnk at h
  injection h with h1 h2
  exact ⟨by omega, by omega⟩
section
variable {N : Nat} {L : List (Nat × Nat)}
theorem nb_nodup (hn : L.Nodup) (c : Nat) : (nb false L c).Nodup := by
  unfold nb
  refine List.pairwise_map.2 ?_
  have h1 : (L.filter fun p => (ends false p).1 == c).Pairwise (fun a b => a ≠ b ∧ a.1 = c ∧ b.1 = c) := by
    have h2 : (L.filter fun p => (ends false p).1 == c).Pairwise (· ≠ ·) := List.Pairwise.filter _ hn
    refine List.Pairwise.imp_of_mem (fun {a b} ha hb hab => ?_) h2
    have h3 := (List.mem_filter.1 ha).2
    have h4 := (List.mem_filter.1 hb).2
    exact ⟨hab, by simpa [ends] using h3, by simpa [ends] using h4⟩
  refine List.Pairwise.imp (fun {a b} h e => ?_) h1
  obtain ⟨h2, h3, h4⟩ := h
  exact h2 (Prod.ext (by rw [h3, h4]) (by simpa [ends] using e))
theorem keptTo_nodup (hn : L.Nodup) (k : Nat) : (keptTo N L k).Nodup := by
  unfold keptTo
  refine List.pairwise_flatMap.2 ⟨fun c _ => ?_, ?_⟩
  · refine List.pairwise_map.2 (List.Pairwise.imp (fun {a b} h e => h (lnk_inj e).2) (List.Pairwise.filter _ (nb_nodup hn c)))
  · refine List.Pairwise.imp (fun {a b} h x hx y hy e => ?_) List.nodup_range
    obtain ⟨s, -, rfl⟩ := List.mem_map.1 hx
    obtain ⟨t, -, rfl⟩ := List.mem_map.1 hy
    exact h (lnk_inj e).1
end
section
variable {N : Nat} {L R : List (Nat × Nat)}
/-- How many nodes lie between. -/
def btw (N : Nat) (L : List (Nat × Nat)) (a b : Nat) : Nat := ((List.range N).filter fun x => wmat L N a x && wmat L N x b).length
theorem filter_lt {l : List Nat} {f g : Nat → Bool} (h : ∀ x ∈ l, f x = true → g x = true) {y : Nat} (hy : y ∈ l) (h1 : g y = true) (h2 : f y = false) : (l.filter f).length < (l.filter g).length := by
  induction l with
  | nil => cases hy
  | cons a l ih =>
    have hle : (l.filter f).length ≤ (l.filter g).length := by
      clear ih hy
      have h' : ∀ x ∈ l, f x = true → g x = true := fun x hx => h x (List.mem_cons_of_mem _ hx)
      clear h
      induction l with
      | nil => exact Nat.le_refl _
      | cons b l ihl =>
        have := ihl (fun x hx => h' x (List.mem_cons_of_mem _ hx))
        have hb := h' b (List.mem_cons_self ..)
        cases hf : f b <;> cases hg : g b <;> simp [hf, hg] at hb ⊢ <;> omega
    rcases List.mem_cons.1 hy with e | hy'
    · subst e
      simp [h1, h2]
      omega
    · have hlt := ih (fun x hx => h x (List.mem_cons_of_mem _ hx)) hy'
      have ha := h a (List.mem_cons_self ..)
      cases hf : f a <;> cases hg : g a <;> simp [hf, hg] at ha ⊢ <;> omega
theorem req_lt (hL : ∀ p ∈ L, p.1 < N ∧ p.2 < N) {a b : Nat} (h : Req L a b) : a < N ∧ b < N := by
  induction h with
  | one h => exact hL _ h
  | step h _ ih => exact ⟨(hL _ h).1, ih.2⟩
/-- The reduced links. -/
def IsRed (N : Nat) (L R : List (Nat × Nat)) : Prop := ∀ c s, (c, s) ∈ R ↔ (c, s) ∈ L ∧ indB N L c s = false
theorem red_req (hL : ∀ p ∈ L, p.1 < N ∧ p.2 < N) (ha : Acyc L) (hR : IsRed N L R) {a b : Nat} : Req R a b ↔ Req L a b := by
  constructor
  · intro h
    induction h with
    | one h => exact .one ((hR _ _).1 h).1
    | step h _ ih => exact .step ((hR _ _).1 h).1 ih
  · have key : ∀ (m a b : Nat), btw N L a b ≤ m → Req L a b → Req R a b := by
      intro m
      induction m with
      | zero =>
        intro a b hm h
        have hno : ∀ x, ¬ (Req L a x ∧ Req L x b) := fun x ⟨h1, h2⟩ => by
          have hx := (req_lt hL h1).2
          have : x ∈ (List.range N).filter fun x => wmat L N a x && wmat L N x b := List.mem_filter.2 ⟨List.mem_range.2 hx, by rw [(wmat_iff hL).2 h1, (wmat_iff hL).2 h2]; rfl⟩
          have := List.length_pos_of_mem this
          unfold btw at hm
          omega
        cases h with
        | one h =>
          refine .one ((hR _ _).2 ⟨h, ?_⟩)
          rw [← Bool.not_eq_true, indB_iff hL]
          rintro ⟨t, h1, h2⟩
          exact hno t ⟨.one h1, h2⟩
        | step h k => exact absurd ⟨.one h, k⟩ (hno _)
      | succ m ih =>
        intro a b hm h
        by_cases hx : ∃ x, Req L a x ∧ Req L x b
        · obtain ⟨x, h1, h2⟩ := hx
          have hxN := (req_lt hL h1).2
          have hmem : x ∈ List.range N := List.mem_range.2 hxN
          have hxx : wmat L N x x = false := by
            rw [← Bool.not_eq_true, wmat_iff hL]
            exact ha x
          have hin : (wmat L N a x && wmat L N x b) = true := by rw [(wmat_iff hL).2 h1, (wmat_iff hL).2 h2]; rfl
          have l1 : btw N L a x < btw N L a b := filter_lt (fun y _ hy => by
            rw [Bool.and_eq_true, wmat_iff hL, wmat_iff hL] at hy ⊢
            exact ⟨hy.1, hy.2.trans h2⟩) hmem hin (by rw [hxx]; simp)
          have l2 : btw N L x b < btw N L a b := filter_lt (fun y _ hy => by
            rw [Bool.and_eq_true, wmat_iff hL, wmat_iff hL] at hy ⊢
            exact ⟨h1.trans hy.1, hy.2⟩) hmem hin (by rw [hxx]; simp)
          exact (ih a x (by omega) h1).trans (ih x b (by omega) h2)
        · cases h with
          | one h =>
            refine .one ((hR _ _).2 ⟨h, ?_⟩)
            rw [← Bool.not_eq_true, indB_iff hL]
            rintro ⟨t, h1, h2⟩
            exact hx ⟨t, .one h1, h2⟩
          | step h k => exact absurd ⟨_, .one h, k⟩ hx
    exact key _ a b (Nat.le_refl _)
theorem rch_red (hL : ∀ p ∈ L, p.1 < N ∧ p.2 < N) (ha : Acyc L) (hR : IsRed N L R) {of : List Nat} {v : Nat} : Rch R of v ↔ Rch L of v := by
  unfold Rch
  simp only [red_req hL ha hR]
end
theorem toNs_mem {l : List (Int × Int)} (hl : ∀ p ∈ l, 0 ≤ p.1 ∧ 0 ≤ p.2) {c s : Nat} : (c, s) ∈ toNs l ↔ lnk c s ∈ l := by
  unfold toNs
  rw [List.mem_map]
  constructor
  · rintro ⟨⟨a, b⟩, hp, e⟩
    have := hl _ hp
    unfold toN at e
    injection e with e1 e2
    simp only at e1 e2 this
    rw [show lnk c s = (a, b) from Prod.ext (by show ((c : Nat) : Int) = a; omega) (by show ((s : Nat) : Int) = b; omega)]
    exact hp
  · exact fun h => ⟨_, h, by unfold toN lnk; simp⟩

section
variable {N W : Nat} {L R : List (Nat × Nat)} {D : Nat → Nat}
/-- What an ended device requires has ended. -/
theorem InvS.ended_req {p : St} (h : InvS N L D W p) {t a b : Nat} (hr : Req L a b) (ha : ∃ y ∈ p.sl, y.d = a ∧ y.e ≤ t) : ∃ y ∈ p.sl, y.d = b ∧ y.e ≤ t := by
  induction hr with
  | one hl =>
    obtain ⟨x, hx, rfl, he⟩ := ha
    obtain ⟨y, hy, h1, h2⟩ := h.deps x hx _ hl rfl
    have := (h.time x hx).1
    exact ⟨y, hy, h1, by omega⟩
  | step hl _ ih =>
    obtain ⟨x, hx, rfl, he⟩ := ha
    obtain ⟨y, hy, h1, h2⟩ := h.deps x hx _ hl rfl
    have := (h.time x hx).1
    exact ih ⟨y, hy, h1, by omega⟩
theorem rdyB_red (hL : ∀ p ∈ L, p.1 < N ∧ p.2 < N) (ha : Acyc L) (hR : IsRed N L R) {p : St} (h : InvS N L D W p) (d : Nat) : rdyB R p d = rdyB L p d := by
  rw [Bool.eq_iff_iff, rdyB_iff, rdyB_iff]
  refine and_congr Iff.rfl ⟨fun h1 q hq e => ?_, fun h1 q hq e => h1 q ((hR q.1 q.2).1 hq).1 e⟩
  have hreq : Req R d q.2 := (red_req hL ha hR).2 (.one (by rw [← e]; exact hq))
  cases hreq with
  | one h2 => exact h1 (d, q.2) h2 rfl
  | step h2 h3 => exact h.ended_req ((red_req hL ha hR).1 h3) (h1 _ h2 rfl)
theorem rdy_red (hL : ∀ p ∈ L, p.1 < N ∧ p.2 < N) (ha : Acyc L) (hR : IsRed N L R) {p : St} (h : InvS N L D W p) : rdy N R p = rdy N L p := by
  unfold rdy
  rw [show rdyB R p = rdyB L p from funext fun d => rdyB_red hL ha hR h d]
theorem iter_red (hL : ∀ p ∈ L, p.1 < N ∧ p.2 < N) (ha : Acyc L) (hR : IsRed N L R) : ∀ k, iterS N R D W k = iterS N L D W k
  | 0 => rfl
  | k + 1 => by
    unfold iterS
    rw [iter_red hL ha hR k]
    unfold stepS
    rw [rdy_red hL ha hR (iter_rch k).inv]
theorem sched_red (hL : ∀ p ∈ L, p.1 < N ∧ p.2 < N) (ha : Acyc L) (hR : IsRed N L R) : sched N R D W = sched N L D W := by
  unfold sched finS
  rw [iter_red hL ha hR]
end
theorem keptTo_len {N : Nat} {L : List (Nat × Nat)} (hn : L.Nodup) (k : Nat) : (keptTo N L k).length ≤ L.length := by
  have h1 : ∀ p ∈ keptTo N L k, p ∈ ofNs L := fun p hp => by
    obtain ⟨c, s, -, rfl, h, -⟩ := mem_keptTo.1 hp
    exact List.mem_map.2 ⟨(c, s), h, rfl⟩
  have := (keptTo_nodup (N := N) hn k).length_le_of_subset h1
  rwa [ofNs_length] at this
/-- What Reduce hands back and the schedule it gives. -/
structure RedOk (N W : Nat) (L : List (Nat × Nat)) (u : List Nat) (r : List (Int × Int)) : Prop where
  red : redM (N : Int) (ofNs L) = (r, 0)
  len : r.length ≤ L.length
  sch : schedM (N : Int) r u (W : Int) = (sched N L (durF u) W, 0)
theorem red_ok {N W : Nat} {L : List (Nat × Nat)} {u : List Nat} (h : Case31 N W L u) (hn : L.Nodup) : RedOk N W L u (sortL (keptTo N L N)) := by
  have hL := h.lt
  have ha := h.ac
  have hc : checkM (N : Int) (ofNs L) = 0 := (chkM_zero h.chk).1
  have hmem : ∀ p, p ∈ sortL (keptTo N L N) ↔ ∃ c s, c < N ∧ p = lnk c s ∧ (c, s) ∈ L ∧ indB N L c s = false := fun p => by
    unfold sortL
    rw [List.mem_mergeSort, mem_keptTo]
  have hlk : ∀ p ∈ sortL (keptTo N L N), LinkOk N p := fun p hp => by
    obtain ⟨c, s, hc, rfl, h1, -⟩ := (hmem p).1 hp
    have := hL _ h1
    unfold LinkOk lnk
    simp only at this ⊢
    omega
  have hlen : (sortL (keptTo N L N)).length ≤ L.length := by
    unfold sortL
    rw [List.length_mergeSort]
    exact keptTo_len hn N
  have hnd : (sortL (keptTo N L N)).Nodup := by
    unfold sortL
    exact (List.mergeSort_perm _ _).nodup_iff.2 (keptTo_nodup hn N)
  have hisR : IsRed N L (toNs (sortL (keptTo N L N))) := fun c s => by
    rw [toNs_mem (fun p hp => ⟨(hlk p hp).1, (hlk p hp).2.2.1⟩), hmem]
    constructor
    · rintro ⟨a, b, -, e, h1, h2⟩
      obtain ⟨rfl, rfl⟩ := lnk_inj e
      exact ⟨h1, h2⟩
    · rintro ⟨h1, h2⟩
      exact ⟨c, s, (hL _ h1).1, rfl, h1, h2⟩
  refine ⟨by unfold redM; rw [if_pos hc, Int.toNat_natCast, toNs_ofNs], hlen, ?_⟩
  generalize sortL (keptTo N L N) = r at *
  have hN := h.nodes
  have hl := h.len
  have hb : basicM (N : Int) r = 0 := basicM_ok ⟨by omega, by omega, by omega, hlk⟩ hnd
  have hacR : Acyc (toNs r) := fun a hreq => ha a ((red_req hL ha hisR).1 hreq)
  have hck : checkM (N : Int) r = 0 := by
    unfold checkM
    rw [orderM_good hb ((greedy_full (toNs_lt hlk)).2 hacR)]
  have hchk : chkM (N : Int) r u (W : Int) = 0 := chkM_ok hck ⟨(chkM_zero h.chk).2.1, (chkM_zero h.chk).2.2.1, (chkM_zero h.chk).2.2.2.1, (chkM_zero h.chk).2.2.2.2⟩
  rw [schedM_ok hchk, Int.toNat_natCast, Int.toNat_natCast, sched_red hL ha hisR]
end Go.Proofs.Ytkbfnhkcmelneaa

