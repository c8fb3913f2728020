/- What levels are: a consumer lies above its suppliers, and just one above one of them. -/
import Derived.Test.YtinengemeppefaaGraM5
namespace Go.Proofs.Ytinengemeppefaa

theorem levS_other {v s u : Nat} {f : Nat → Nat} (h : u ≠ v) : levS v f s u = f u := by simp [levS, h]
theorem levV_other (L : List (Nat × Nat)) (f : Nat → Nat) {v u : Nat} (h : u ≠ v) : levV L f v u = f u := by
  unfold levV
  generalize nb false L v = C
  induction C generalizing f with
  | nil => rfl
  | cons c C ih =>
    rw [List.foldl_cons, ih, levS_other h]
theorem levs_app (L : List (Nat × Nat)) (o r : List Nat) {u : Nat} (h : u ∉ r) : levs L (o ++ r) u = levs L o u := by
  unfold levs
  rw [List.foldl_append]
  generalize o.foldl (levV L) (fun _ => 0) = f
  induction r generalizing f with
  | nil => rfl
  | cons c r ih =>
    rw [List.foldl_cons, ih (fun h' => h (List.mem_cons_of_mem _ h')), levV_other L f (fun e => h (by rw [e]; exact List.mem_cons_self ..))]
/-- The fold at v itself, where v is none of the suppliers. -/
theorem fold_self {v : Nat} : ∀ (C : List Nat) (f : Nat → Nat), v ∉ C →
    (∀ s ∈ C, f s + 1 ≤ C.foldl (levS v) f v) ∧ f v ≤ C.foldl (levS v) f v ∧ (C.foldl (levS v) f v = f v ∨ ∃ s ∈ C, C.foldl (levS v) f v = f s + 1)
  | [], f, _ => ⟨by simp, Nat.le_refl _, .inl rfl⟩
  | c :: C, f, h => by
    have hc : c ≠ v := fun e => h (by rw [e]; exact List.mem_cons_self ..)
    have hC : v ∉ C := fun h' => h (List.mem_cons_of_mem _ h')
    obtain ⟨h1, h2, h3⟩ := fold_self C (levS v f c) hC
    have hv : levS v f c v = max (f v) (f c + 1) := by simp [levS]
    rw [List.foldl_cons]
    rw [hv] at h2 h3
    refine ⟨fun s hs => ?_, by omega, ?_⟩
    · rcases List.mem_cons.1 hs with e | hs'
      · rw [e]; omega
      · have := h1 s hs'
        rwa [levS_other (fun e => hC (by rw [← e]; exact hs'))] at this
    · rcases h3 with h3 | ⟨s, hs, h3⟩
      · rcases Nat.le_total (f v) (f c + 1) with h4 | h4
        · exact .inr ⟨c, List.mem_cons_self .., by omega⟩
        · exact .inl (by omega)
      · exact .inr ⟨s, List.mem_cons_of_mem _ hs, by rwa [levS_other (fun e => hC (by rw [← e]; exact hs))] at h3⟩
theorem levs_zero (L : List (Nat × Nat)) {o : List Nat} {u : Nat} (h : u ∉ o) : levs L o u = 0 := by
  have := levs_app L [] o h
  rwa [List.nil_append] at this
/-- Each node stands above its suppliers, and is 0 or just above one of them. -/
theorem levs_spec {L : List (Nat × Nat)} {o : List Nat} (hn : o.Nodup) (hc : ∀ (i : Nat) (v : Nat), o[i]? = some v → ∀ p ∈ L, p.1 = v → p.2 ∈ o.take i) {v : Nat} (hv : v ∈ o) :
    (∀ s, (v, s) ∈ L → levs L o s < levs L o v) ∧ (levs L o v = 0 ∨ ∃ s, (v, s) ∈ L ∧ levs L o v = levs L o s + 1) := by
  obtain ⟨i, hi⟩ := List.mem_iff_getElem?.1 hv
  have hsp := split_at_some hi
  have hsup := hc i v hi
  generalize o.take i = t at hsp hsup
  generalize o.drop (i + 1) = r at hsp
  rw [hsp] at hn
  rw [List.nodup_append] at hn
  obtain ⟨_, hn2, hn3⟩ := hn
  have hvr : v ∉ r := (List.nodup_cons.1 hn2).1
  have hvt : v ∉ t := fun h => hn3 v h v (List.mem_cons_self ..) rfl
  have hC : v ∉ nb false L v := fun h => by
    have hp : (v, v) ∈ L := by simpa using (nb_mem (cons := false)).1 h
    exact hvt (hsup _ hp rfl)
  have hfin : ∀ s, s ∈ t ∨ s = v → levs L o s = levs L (t ++ [v]) s := fun s hs => by
    have hsr : s ∉ r := by
      rcases hs with h | h
      · exact fun h' => hn3 s h s (List.mem_cons_of_mem _ h') rfl
      · rw [h]; exact hvr
    rw [hsp, show t ++ v :: r = (t ++ [v]) ++ r by simp, levs_app L _ _ hsr]
  have hat : ∀ s, s ∈ t → levs L o s = levs L t s := fun s hs => by
    rw [hfin s (.inl hs), levs_snoc, levV_other]
    exact fun e => hvt (by rw [← e]; exact hs)
  have hself : levs L o v = (nb false L v).foldl (levS v) (levs L t) v := by
    rw [hfin v (.inr rfl), levs_snoc]
    rfl
  obtain ⟨h1, _, h3⟩ := fold_self (nb false L v) (levs L t) hC
  have hmem : ∀ s, (v, s) ∈ L ↔ s ∈ nb false L v := fun s => by
    have := nb_mem (cons := false) (L := L) (v := v) (u := s)
    simp at this
    exact this.symm
  refine ⟨fun s hs => ?_, ?_⟩
  · have := h1 s ((hmem s).1 hs)
    rw [hself, hat s (hsup _ hs rfl)]
    omega
  · rcases h3 with h3 | ⟨s, hs, h3⟩
    · left
      rw [hself, h3, levs_zero L hvt]
    · right
      have hs' := (hmem s).2 hs
      exact ⟨s, hs', by rw [hself, hat s (hsup _ hs' rfl), h3]⟩
end Go.Proofs.Ytinengemeppefaa
