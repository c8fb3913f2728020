/- Rows of a call's own: a cell set, what stands beside. No program is in sight here. -/
import Derived.Test.YtkbfnhkcmelneaaBase
namespace Go.Proofs.Ytkbfnhkcmelneaa
open Go.RowKit

theorem own_set {w : World} {base : Nat} {e : TypeId} {size n c g : Nat} {xs : List Value} (h : w.ownsRow base e size (.slice (some ⟨g, 0, none⟩) n c) n xs) {i : Nat} (_hi : i < xs.length) (u : Value) : (w.setCell ⟨g, i, none⟩ u).ownsRow base e size (.slice (some ⟨g, 0, none⟩) n c) n (xs.set i u) := by
  refine ⟨by rw [List.length_set]; exact h.1, ?_⟩
  rcases h.2 with ⟨h0, h1⟩ | ⟨g', cap, cur, hv, hb, hh, hn, hc, hs, hx⟩
  · cases h0
  · injection hv with e1 e2 e3
    injection e1 with e1
    injection e1 with e1
    subst e1
    refine .inr ⟨g, cap, cur.setIfInBounds i u, by rw [e3], hb, Blk.set_ (w := w) (g := g) (t := e) (cs := cur) hh i u, hn, hc, by simpa using hs, ?_⟩
    rw [← hx, Array.toList_setIfInBounds, List.take_set]
theorem own_at {w : World} {base : Nat} {e : TypeId} {size n c : Nat} {A : Option Addr} {xs : List Value} (h : w.ownsRow base e size (.slice A n c) n xs) (hn : 0 < n) :
    ∃ g, A = some ⟨g, 0, none⟩ ∧ base ≤ g ∧ g < w.heap.size ∧ (∀ (i : Nat) (u : Value), xs[i]? = some u → w.cell? ⟨g, i, none⟩ = some u) ∧ (∀ i, w.frozen? ⟨g, i, none⟩ = false) := by
  rcases h.2 with ⟨h0, h1⟩ | ⟨g, cap, cur, hv, hb, hh, hcn, hc, hs, hx⟩
  · omega
  · injection hv with e1 e2 e3
    subst e1
    refine ⟨g, rfl, hb, lt_of_block hh, fun i u hu => ?_, fun i => Blk.frozen (w := w) (g := g) (t := e) (cs := cur) hh i⟩
    rw [Blk.cell (w := w) (g := g) (t := e) (cs := cur) hh i]
    rw [← hx, List.getElem?_take] at hu
    split at hu
    · simpa using hu
    · cases hu
theorem own_keep {w w' : World} {b1 b2 : Nat} {e1 e2 : TypeId} {s1 s2 n1 n2 : Nat} {v1 v2 : Value} {xs1 xs2 : List Value} (h : w.ownsRow b1 e1 s1 v1 n1 xs1) (h2 : w.ownsRow b2 e2 s2 v2 n2 xs2) (hne : e1 ≠ e2) (k : Fr v2.ownBlock.toList w w') : w'.ownsRow b1 e1 s1 v1 n1 xs1 := own_fr h k (fun y hy hm => by
  obtain ⟨_, _, c1, hb1⟩ := own_block h hy
  obtain ⟨_, _, c2, hb2⟩ := own_block h2 (show v2.ownBlock = some y by simpa using hm)
  exact Blk.ne_ hb1 hb2 hne rfl)
end Go.Proofs.Ytkbfnhkcmelneaa
