/- The plain model of levels. -/
import Derived.Test.YtkbfnhkcmelneaaGraM4Mg
import Derived.Test.YtkbfnhkcmelneaaMgResumeImplied2
namespace Go.Proofs.Ytkbfnhkcmelneaa
open Go.RowKit

def levS (v : Nat) (f : Nat → Nat) (s : Nat) : Nat → Nat := fun u => if u = v then max (f v) (f s + 1) else f u
def levV (L : List (Nat × Nat)) (f : Nat → Nat) (v : Nat) : Nat → Nat := (nb false L v).foldl (levS v) f
def levs (L : List (Nat × Nat)) (o : List Nat) : Nat → Nat := o.foldl (levV L) (fun _ => 0)
def levP (v : Nat) (f : Nat → Nat) (p : Nat × Nat) : Nat → Nat := if p.1 = v then levS v f p.2 else f
theorem levV_links (L : List (Nat × Nat)) (f : Nat → Nat) (v : Nat) : L.foldl (levP v) f = levV L f v := by
  unfold levV nb
  induction L generalizing f with
  | nil => rfl
  | cons p L ih =>
    by_cases h : p.1 = v
    · simp [ends, h, levP] at ih ⊢
      exact ih _
    · simp [ends, h, levP] at ih ⊢
      exact ih _
theorem levS_le {v s b : Nat} {f : Nat → Nat} (h : ∀ u, f u ≤ b) : ∀ u, levS v f s u ≤ b + 1 := fun u => by
  unfold levS
  have h1 := h v
  have h2 := h s
  have h3 := h u
  split <;> omega
theorem fold_le {v b : Nat} : ∀ (C : List Nat) (f : Nat → Nat), (∀ u, f u ≤ b) → ∀ u, C.foldl (levS v) f u ≤ b + C.length
  | [], f, h => by simpa using h
  | c :: C, f, h => fun u => by
    have := fold_le (v := v) (b := b + 1) C (levS v f c) (levS_le h) u
    simp
    omega
theorem levs_le {L : List (Nat × Nat)} (hL : L.length ≤ 1024) : ∀ (o : List Nat) (f : Nat → Nat) (b : Nat), (∀ u, f u ≤ b) → ∀ u, o.foldl (levV L) f u ≤ b + o.length * 1024
  | [], f, b, h => by simpa using h
  | c :: C, f, b, h => fun u => by
    have h1 : ∀ u, levV L f c u ≤ b + 1024 := fun u => by
      have := fold_le (v := c) (nb false L c) f h u
      have h2 := nb_length_le false L c
      unfold levV
      omega
    have := levs_le hL C (levV L f c) (b + 1024) h1 u
    simp
    omega
theorem levs_bound {L : List (Nat × Nat)} (hL : L.length ≤ 1024) {o : List Nat} (ho : o.length ≤ 128) (u : Nat) : levs L o u ≤ 131072 := by
  have := levs_le hL o (fun _ => 0) 0 (fun _ => Nat.le_refl _) u
  unfold levs
  omega
theorem levs_snoc (L : List (Nat × Nat)) (o : List Nat) (v : Nat) : levs L (o ++ [v]) = levV L (levs L o) v := by simp [levs]

theorem FA.own {α : Type} {w : World} {g n base : Nat} {t : TypeId} {e : α → Value} {f : Nat → α} (h : FA w g t e n f) (hb : base ≤ g) (hn : n ≤ maxLen) :
    w.ownsRow base t 1 (.slice (some ⟨g, 0, none⟩) n n) n (((List.range n).map f).map e) :=
  ⟨by simp, .inr ⟨g, n, _, rfl, hb, h, Nat.le_refl _, hn, by simp, List.take_of_length_le (by simp)⟩⟩
end Go.Proofs.Ytkbfnhkcmelneaa

