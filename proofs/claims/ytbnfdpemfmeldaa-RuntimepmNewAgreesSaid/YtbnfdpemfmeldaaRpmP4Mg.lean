/- Plain: the calls that the laws of chapter 28 make. No program is in sight here. -/
import Derived.Test.YtbnfdpemfmeldaaRpmP3Mg
import Derived.Test.YtbnfdpemfmeldaaRpmW7Mg
import Derived.Test.YtbnfdpemfmeldaaRpmSMg
namespace Go.Proofs.Ytbnfdpemfmeldaa

/-- A manager between calls: its clock, a bound of its uses. -/
structure St (M : RM) (s : RS) (now k : Nat) : Prop where
  good : Good M s
  sin : SinLe s s.clk
  clk : s.clk = now
  use : ∀ i, s.use i ≤ k
section
variable {M : RM} {s : RS} {now k : Nat}
theorem St.sok (h : St M s now k) (hn : now ≤ 1152921504606846976) (hk : k ≤ 4096) : SOk M s := ⟨fun i => by have := h.sin i; have := h.clk; omega, fun i => Nat.le_trans (h.use i) hk, by have := h.clk; omega⟩
theorem St.zero (M : RM) : St M zeroS 0 0 := ⟨⟨⟨fun _ _ h => (by cases h), fun _ h => absurd h (Nat.lt_irrefl 0), fun _ h => (by cases h)⟩, fun i hi => by have := idl_act hi; cases this⟩, fun _ => Nat.le_refl _, rfl, fun _ => Nat.le_refl _⟩
theorem Did.st {t k' last : Nat} {R : RS × List POp} (h : Did M t s last R) (hs : SinLe R.1 t) (hu : ∀ i, R.1.use i ≤ k') : St M R.1 t k' := ⟨h.good, by rw [h.clk]; exact hs, h.clk, hu⟩
theorem setF_le {f : Nat → Nat} {B u d : Nat} (h : ∀ i, f i ≤ B) (hu : u ≤ B) (i : Nat) : setF f d u i ≤ B := by
  unfold setF
  split
  · exact hu
  · exact h i
/-- A call with a device and a time that fit. -/
theorem do_step (hO : Ordd M) (h : St M s now k) (c : CL) (hr : c.raw = false) (hn : 0 < M.n) (hnow : now + 15 ≤ 1152921504606846976) :
    atM c M.n now = ((umod c.dev M.n : Int), now + c.wait % 15) ∧ umod c.dev M.n < M.n ∧
    ((umod c.kind 4 = 2 ∧ s.use (umod c.dev M.n) = 0 ∧ doC M s c now = (s, [], 9)) ∨
     (¬ (umod c.kind 4 = 2 ∧ s.use (umod c.dev M.n) = 0) ∧ (doC M s c now).2.2 = 0 ∧ (∀ last, last ≤ now → Did M (now + c.wait % 15) s last ((doC M s c now).1, (doC M s c now).2.1)) ∧ St M (doC M s c now).1 (now + c.wait % 15) (k + 1) ∧
      (doC M s c now).1.use = (if umod c.kind 4 = 2 then setF s.use (umod c.dev M.n) (s.use (umod c.dev M.n) - 1) else if umod c.kind 4 = 3 then s.use else setF s.use (umod c.dev M.n) (s.use (umod c.dev M.n) + 1)))) := by
  have hat : atM c M.n now = ((umod c.dev M.n : Int), now + c.wait % 15) := by
    unfold atM
    rw [if_neg (by rw [hr]; simp; omega)]
  have hd := umod_lt c.dev hn
  refine ⟨hat, hd, ?_⟩
  have hlt : c.wait % 15 < 15 := Nat.mod_lt _ (by omega)
  unfold doC
  rw [hat]
  simp only
  generalize umod c.dev M.n = d at hd ⊢
  generalize c.wait % 15 = x at hlt ⊢
  generalize umod c.kind 4 = q
  have hck := h.clk
  have hok : s.clk ≤ now + x ∧ now + x ≤ 1152921504606846976 := ⟨by omega, by omega⟩
  have hdi : (0 : Int) ≤ (d : Int) ∧ (d : Int) < (M.n : Int) := ⟨by omega, by omega⟩
  by_cases h2 : q = 2
  · rw [if_pos h2]
    unfold putC
    rw [if_pos ⟨hdi, hok⟩, Int.toNat_natCast]
    by_cases h0 : s.use d = 0
    · rw [if_pos h0]
      exact .inl ⟨h2, h0, rfl⟩
    · rw [if_neg h0]
      have hp : ∀ last, last ≤ now → Did M (now + x) s last (putM M s d (now + x)) := fun last hl => put_did h.good (by omega) hok.1 (by omega)
      have hu := (putM_use M s d (now + x)).1
      refine .inr ⟨fun h => h0 h.2, rfl, hp, (hp 0 (Nat.zero_le _)).st (put_sin d h.sin hok.1) (fun i => ?_), ?_⟩
      · rw [hu]
        exact setF_le (fun i => Nat.le_succ_of_le (h.use i)) (by have := h.use d; omega) i
      · rw [hu, if_pos h2]
  · rw [if_neg h2]
    by_cases h3 : q = 3
    · rw [if_pos h3]
      unfold advC
      rw [if_pos hok]
      have hp : ∀ last, last ≤ now → Did M (now + x) s last (advM M s (now + x)) := fun last hl => adv_did h.good (by omega)
      have hu := (advM_use M s (now + x)).1
      refine .inr ⟨fun h => h2 h.1, rfl, hp, (hp 0 (Nat.zero_le _)).st (adv_sin h.sin hok.1) (fun i => ?_), ?_⟩
      · rw [hu]
        exact Nat.le_succ_of_le (h.use i)
      · rw [hu, if_neg h2, if_pos h3]
    · rw [if_neg h3]
      unfold getC
      rw [if_pos ⟨hdi, hok⟩, Int.toNat_natCast]
      have hp : ∀ last, last ≤ now → Did M (now + x) s last (getM M s d (now + x)) := fun last hl => (get_did hO h.good (by omega) hok.1 hd).1
      have hu := (get_did hO h.good (last := 0) (Nat.zero_le _) hok.1 hd).2
      refine .inr ⟨fun h => h2 h.1, rfl, hp, (hp 0 (Nat.zero_le _)).st (get_sin d h.sin hok.1) (fun i => ?_), ?_⟩
      · rw [hu]
        exact setF_le (fun i => Nat.le_succ_of_le (h.use i)) (by have := h.use d; omega) i
      · rw [hu, if_neg h2, if_neg h3]
/-- A call where there are no devices. -/
theorem do_none (h : St M s now k) (c : CL) (hn : M.n = 0) (hnow : now ≤ 1152921504606846976) : ∃ now', now' ≤ 1152921504606846976 ∧ (doC M s c now).2.1 = [] ∧ St M (doC M s c now).1 now' k ∧ ((doC M s c now).2.2 = 0 → now' = (atM c M.n now).2) ∧ ((doC M s c now).2.2 ≠ 0 → now' = now) := by
  have hf : ∀ s, fstM M s = none := fun s => by
    unfold fstM
    rw [hn]
    rfl
  unfold doC
  have hp : ∀ d t, putC M s d t = (s, [], 1) := fun d t => by unfold putC; rw [if_neg (by omega)]
  have hg : ∀ d t, getC M s d t = (s, [], 1) := fun d t => by unfold getC; rw [if_neg (by omega)]
  rw [hp, hg]
  split
  · exact ⟨now, hnow, rfl, h, (fun e => by cases e), fun _ => rfl⟩
  · split
    · unfold advC
      split
      · rename_i hok
        refine ⟨(atM c M.n now).2, hok.2, ?_, ?_, fun _ => rfl, fun e => absurd rfl e⟩
        · rw [next_none (hf s)]
        · rw [next_none (hf s)]
          refine ⟨⟨h.good.up.tick _, fun i hi => ?_⟩, h.sin.mono hok.1, rfl, h.use⟩
          have := h.good.up.dom i (idl_act hi)
          omega
      · exact ⟨now, hnow, rfl, h, (fun e => by cases e), fun _ => rfl⟩
    · exact ⟨now, hnow, rfl, h, (fun e => by cases e), fun _ => rfl⟩
end
end Go.Proofs.Ytbnfdpemfmeldaa

