/- The plain model of closures: what is among the given nodes or can be reached from them. -/
import Derived.Test.YtkbfnhkcmelneaaGraM3Mg
namespace Go.Proofs.Ytkbfnhkcmelneaa

def swp (L : List (Nat × Nat)) : List (Nat × Nat) := L.map fun p => (p.2, p.1)
/-- The links as the closure goes: from a consumer to its supplier or, if cons is true, the other way. -/
def ori (cons : Bool) (L : List (Nat × Nat)) : List (Nat × Nat) := if cons then swp L else L
theorem swp_mem {L : List (Nat × Nat)} {a b : Nat} : (a, b) ∈ swp L ↔ (b, a) ∈ L := by
  unfold swp
  rw [List.mem_map]
  constructor
  · rintro ⟨⟨x, y⟩, h, e⟩
    injection e with e1 e2
    simp only at e1 e2
    subst e1 e2
    exact h
  · exact fun h => ⟨(b, a), h, rfl⟩
theorem ori_mem {cons : Bool} {L : List (Nat × Nat)} {a b : Nat} : (a, b) ∈ ori cons L ↔ b ∈ nb cons L a := by
  rw [nb_mem]
  cases cons
  · simp [ori]
  · simp [ori, swp_mem]
theorem ori_lt {cons : Bool} {n : Nat} {L : List (Nat × Nat)} (h : ∀ p ∈ L, p.1 < n ∧ p.2 < n) : ∀ p ∈ ori cons L, p.1 < n ∧ p.2 < n := by
  intro p hp
  obtain ⟨a, b⟩ := p
  cases cons
  · exact h _ (by simpa [ori] using hp)
  · have := h _ (swp_mem.1 (by simpa [ori] using hp))
    exact ⟨this.2, this.1⟩
/-- v is among the nodes of, or can be reached from them. -/
def Rch (K : List (Nat × Nat)) (of : List Nat) (v : Nat) : Prop := ∃ u ∈ of, u = v ∨ Req K u v
theorem Rch.step {K : List (Nat × Nat)} {of : List Nat} {v s : Nat} (h : Rch K of v) (hs : (v, s) ∈ K) : Rch K of s := by
  obtain ⟨u, hu, e | h⟩ := h
  · subst e
    exact ⟨u, hu, .inr (.one hs)⟩
  · exact ⟨u, hu, .inr (h.trans (.one hs))⟩
/-- Whatever holds the nodes and is closed holds all that can be reached. -/
theorem Rch.sub {K : List (Nat × Nat)} {of : List Nat} {R : Nat → Prop} (h0 : ∀ u ∈ of, R u) (hc : ∀ v s, R v → (v, s) ∈ K → R s) {v : Nat} (h : Rch K of v) : R v := by
  obtain ⟨u, hu, e | h⟩ := h
  · rw [← e]; exact h0 u hu
  · have : ∀ a b, Req K a b → R a → R b := fun a b hab => by
      induction hab with
      | one h => exact fun ha => hc _ _ ha h
      | step h _ ih => exact fun ha => ih (hc _ _ ha h)
    exact this u v h (h0 u hu)
def rchB (n : Nat) (K : List (Nat × Nat)) (of : List Nat) (v : Nat) : Bool := of.any fun u => u == v || wmat K n u v
theorem rchB_iff {n : Nat} {K : List (Nat × Nat)} (hK : ∀ p ∈ K, p.1 < n ∧ p.2 < n) {of : List Nat} {v : Nat} : rchB n K of v = true ↔ Rch K of v := by
  unfold rchB Rch
  rw [List.any_eq_true]
  constructor
  · rintro ⟨u, hu, h⟩
    rw [Bool.or_eq_true] at h
    exact ⟨u, hu, h.imp (fun h => by simpa using h) (fun h => (wmat_iff hK).1 h)⟩
  · rintro ⟨u, hu, h⟩
    refine ⟨u, hu, ?_⟩
    rw [Bool.or_eq_true]
    exact h.imp (fun h => by simpa using h) (fun h => (wmat_iff hK).2 h)
theorem rchB_of {n : Nat} {K : List (Nat × Nat)} (hK : ∀ p ∈ K, p.1 < n ∧ p.2 < n) {of : List Nat} {R : Nat → Bool} (h : ∀ v, v < n → (R v = true ↔ Rch K of v)) : ∀ v, v < n → R v = rchB n K of v := fun v hv => by
  rw [Bool.eq_iff_iff, h v hv, rchB_iff hK]
/-- The closure and the error. -/
def closM (cons : Bool) (n : Int) (l : List (Int × Int)) (of : List Int) : List Nat × Int :=
  if basicM n l = 0 then
    (if ∀ x ∈ of, 0 ≤ x ∧ x < n then ((List.range n.toNat).filter (rchB n.toNat (ori cons (toNs l)) (of.map Int.toNat)), 0) else ([], 1))
  else ([], basicM n l)
theorem closM_bad {cons : Bool} {n : Int} {l : List (Int × Int)} {of : List Int} (h : ¬ basicM n l = 0) : closM cons n l of = ([], basicM n l) := by
  unfold closM
  rw [if_neg h]
theorem closM_out {cons : Bool} {n : Int} {l : List (Int × Int)} {of : List Int} (h : basicM n l = 0) (ho : ¬ ∀ x ∈ of, 0 ≤ x ∧ x < n) : closM cons n l of = ([], 1) := by
  unfold closM
  rw [if_pos h, if_neg ho]
theorem closM_ok {cons : Bool} {N : Nat} {l : List (Int × Int)} {of : List Int} (h : basicM (N : Int) l = 0) (ho : ∀ x ∈ of, 0 ≤ x ∧ x < (N : Int)) :
    closM cons (N : Int) l of = ((List.range N).filter (rchB N (ori cons (toNs l)) (of.map Int.toNat)), 0) := by
  unfold closM
  rw [if_pos h, if_pos ho, Int.toNat_natCast]

/-! The search with a stack. -/
/-- What visiting the nodes does: those that are new are reached and pushed. -/
def visF (R : Nat → Bool) (st : List Nat) : List Nat → (Nat → Bool) × List Nat
  | [] => (R, st)
  | c :: C => if R c then visF R st C else visF (fun u => if u = c then true else R u) (st ++ [c]) C
/-- What the search has come to. -/
structure RchSt (n : Nat) (K : List (Nat × Nat)) (of : List Nat) (R : Nat → Bool) (st : List Nat) : Prop where
  lt : ∀ v ∈ st, v < n
  on : ∀ v ∈ st, R v = true
  out : ∀ v, n ≤ v → R v = false
  sound : ∀ v, R v = true → Rch K of v
  closed : ∀ v, R v = true → v ∉ st → ∀ s, (v, s) ∈ K → R s = true
  nodup : st.Nodup
def cnt (n : Nat) (R : Nat → Bool) : Nat := ((List.range n).filter R).length
theorem cnt_le (n : Nat) (R : Nat → Bool) : cnt n R ≤ n := by
  have := List.length_filter_le R (List.range n)
  simpa [cnt] using this
theorem cnt_set {n c : Nat} {R : Nat → Bool} (hc : c < n) (h : R c = false) : cnt n (fun u => if u = c then true else R u) = cnt n R + 1 := by
  unfold cnt
  have key : ∀ l : List Nat, l.Nodup → (l.filter (fun u => if u = c then true else R u)).length = (l.filter R).length + if c ∈ l then 1 else 0 := by
    intro l
    induction l with
    | nil => simp
    | cons a l ih =>
      intro hn
      have hn' := List.nodup_cons.1 hn
      have ih' := ih hn'.2
      by_cases e : a = c
      · subst e
        rw [if_neg hn'.1] at ih'
        simp [h] at ih' ⊢
        omega
      · have e' : ¬ c = a := fun h => e h.symm
        by_cases hR : R a = true
        · simp [e, e', hR] at ih' ⊢
          omega
        · simp [e, e', hR] at ih' ⊢
          omega
  rw [key _ List.nodup_range, if_pos (List.mem_range.2 hc)]
theorem visF_spec {n : Nat} {K : List (Nat × Nat)} {of : List Nat} : ∀ (C : List Nat) (R : Nat → Bool) (st : List Nat) (ex : Nat → Prop), (∀ c ∈ C, c < n) → (∀ c ∈ C, Rch K of c) →
    (∀ v ∈ st, v < n) → (∀ v ∈ st, R v = true) → (∀ v, n ≤ v → R v = false) → (∀ v, R v = true → Rch K of v) → (∀ v, R v = true → v ∉ st → ¬ ex v → ∀ s, (v, s) ∈ K → R s = true) → st.Nodup →
    ∃ R' st', visF R st C = (R', st') ∧ (∀ v ∈ st', v < n) ∧ (∀ v ∈ st', R' v = true) ∧ (∀ v, n ≤ v → R' v = false) ∧ (∀ v, R' v = true → Rch K of v) ∧ (∀ v, R' v = true → v ∉ st' → ¬ ex v → ∀ s, (v, s) ∈ K → R' s = true) ∧ st'.Nodup ∧
      (∀ v, R v = true → R' v = true) ∧ (∀ c ∈ C, R' c = true) ∧ 2 * (n - cnt n R') + st'.length ≤ 2 * (n - cnt n R) + st.length
  | [], R, st, ex, _, _, h1, h2, h3, h4, h5, h6 => ⟨R, st, rfl, h1, h2, h3, h4, h5, h6, fun _ h => h, by simp, Nat.le_refl _⟩
  | c :: C, R, st, ex, hC, hr, h1, h2, h3, h4, h5, h6 => by
    have hC' : ∀ x ∈ C, x < n := fun x hx => hC x (List.mem_cons_of_mem _ hx)
    have hr' : ∀ x ∈ C, Rch K of x := fun x hx => hr x (List.mem_cons_of_mem _ hx)
    have hcn := hC c (List.mem_cons_self ..)
    unfold visF
    by_cases hR : R c = true
    · rw [if_pos hR]
      obtain ⟨R', st', e, g1, g2, g3, g4, g5, g6, g7, g8, g9⟩ := visF_spec C R st ex hC' hr' h1 h2 h3 h4 h5 h6
      refine ⟨R', st', e, g1, g2, g3, g4, g5, g6, g7, fun x hx => ?_, g9⟩
      rcases List.mem_cons.1 hx with h | h
      · rw [h]; exact g7 c hR
      · exact g8 x h
    · rw [if_neg hR]
      have hRf : R c = false := by simpa using hR
      have hmono : ∀ v, R v = true → (if v = c then true else R v) = true := fun v hv => by
        split
        · rfl
        · exact hv
      have hst : c ∉ st := fun h => hR (h2 c h)
      obtain ⟨R', st', e, g1, g2, g3, g4, g5, g6, g7, g8, g9⟩ := visF_spec C (fun u => if u = c then true else R u) (st ++ [c]) ex hC' hr'
        (fun v hv => by rcases List.mem_append.1 hv with h | h; exact h1 v h; rw [List.mem_singleton.1 h]; exact hcn)
        (fun v hv => by rcases List.mem_append.1 hv with h | h; exact hmono v (h2 v h); rw [List.mem_singleton.1 h]; simp)
        (fun v hv => by rw [if_neg (by omega)]; exact h3 v hv)
        (fun v hv => by
          by_cases e : v = c
          · rw [e]; exact hr c (List.mem_cons_self ..)
          · rw [if_neg e] at hv; exact h4 v hv)
        (fun v hv hn hx s hs => by
          simp only [List.mem_append, List.mem_singleton, not_or] at hn
          rw [if_neg hn.2] at hv
          exact hmono s (h5 v hv hn.1 hx s hs))
        (by
          rw [List.nodup_append]
          exact ⟨h6, by simp, fun a ha b hb => by rw [List.mem_singleton.1 hb]; rintro rfl; exact hst ha⟩)
      refine ⟨R', st', e, g1, g2, g3, g4, g5, g6, fun v hv => g7 v (hmono v hv), fun x hx => ?_, ?_⟩
      · rcases List.mem_cons.1 hx with h | h
        · rw [h]; exact g7 c (by simp)
        · exact g8 x h
      · rw [cnt_set hcn hRf] at g9
        have := cnt_le n (fun u => if u = c then true else R u)
        rw [cnt_set hcn hRf] at this
        simp at g9
        omega
end Go.Proofs.Ytkbfnhkcmelneaa

