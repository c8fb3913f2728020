/- A slice of slices of ints that the call itself makes: block g bears the rows' slices, each row owns its cells, no two rows share a block. -/
import Derived.Test.YtdocdgghphhdpaaMgDevicePower2
import Derived.Test.YtdocdgghphhdpaaProg
import Derived.Test.YtdocdgghphhdpaaGraW1Mg
import Derived.Test.YtdocdgghphhdpaaMgDevicePower7
import Derived.Deep.RegionHeld3
import Derived.Deep.RegionLaw
import Derived.StillTailTactics
namespace Go.Proofs.Ytdocdgghphhdpaa
open Go.RowKit

structure ListsIn (w : World) (base g : Nat) (ls : List (List Nat)) (cs : Array Value) : Prop where
  blk : Blk w g 34 cs
  size : cs.size = ls.length
  low : base ≤ g
  rows : ∀ (i : Nat) (l : List Nat) (v : Value), ls[i]? = some l → cs[i]? = some v → w.ownsRow base 3 1 v l.length (l.map nv)
  apart : ∀ (i j : Nat) (v u : Value) (k : Nat), cs[i]? = some v → cs[j]? = some u → v.ownBlock = some k → u.ownBlock = some k → i = j
def ListsAt (w : World) (base g : Nat) (ls : List (List Nat)) : Prop := ∃ cs, ListsIn w base g ls cs

section
variable {w w' : World} {base g : Nat} {ls : List (List Nat)}
theorem ListsAt.lt (h : ListsAt w base g ls) : g < w.heap.size := by
  obtain ⟨cs, h⟩ := h
  exact h.blk.lt
theorem ListsAt.base_ (h : ListsAt w base g ls) : base ≤ g := by
  obtain ⟨cs, h⟩ := h
  exact h.low
theorem ListsAt.fr0 (h : ListsAt w base g ls) (k : Fr [] w w') : ListsAt w' base g ls := by
  obtain ⟨cs, h⟩ := h
  exact ⟨cs, h.blk.fr k (by simp), h.size, h.low, fun i l v hl hv => own_fr (h.rows i l v hl hv) k (fun _ _ => by simp), h.apart⟩
/-- Blocks of other types than int and []int, or new ones, may turn. -/
theorem ListsAt.fr {S : List Nat} (h : ListsAt w base g ls) (k : Fr S w w') (hS : ∀ g', g' ∈ S → g' < w.heap.size → ∃ t cs, Blk w g' t cs ∧ t ≠ 3 ∧ t ≠ 34) : ListsAt w' base g ls := by
  obtain ⟨cs, h⟩ := h
  refine ⟨cs, h.blk.fr k (fun hm => ?_), h.size, h.low, fun i l v hl hv => own_fr (h.rows i l v hl hv) k (fun g' hg hm => ?_), h.apart⟩
  · obtain ⟨t, cs', hb, _, hne⟩ := hS g hm h.blk.lt
    exact Blk.ne_ hb h.blk hne rfl
  · obtain ⟨_, hlt, cs', hb⟩ := own_block (h.rows i l v hl hv) hg
    obtain ⟨t, cs'', hb', hne, _⟩ := hS g' hm hlt
    exact Blk.ne_ hb' hb hne rfl
theorem ListsAt.mono {base' : Nat} (h : ListsAt w base g ls) (hb : base' ≤ base) : ListsAt w base' g ls := by
  obtain ⟨cs, h⟩ := h
  exact ⟨cs, h.blk, h.size, Nat.le_trans hb h.low, fun i l v hl hv => own_base (h.rows i l v hl hv) hb, h.apart⟩
theorem getElem?_of_size {cs : Array Value} {i : Nat} (h : i < cs.size) : ∃ v, cs[i]? = some v := ⟨cs[i], Array.getElem?_eq_getElem h⟩
theorem lt_of_get' {cs : Array Value} {i : Nat} {v : Value} (h : cs[i]? = some v) : i < cs.size := (Array.getElem?_eq_some_iff.1 h).1
theorem ListsAt.at_ (h : ListsAt w base g ls) {i : Nat} {l : List Nat} (hl : ls[i]? = some l) : ∃ v, w.cell? ⟨g, i, none⟩ = some v ∧ w.frozen? ⟨g, i, none⟩ = false ∧ w.ownsRow base 3 1 v l.length (l.map nv) ∧
    (∀ k, v.ownBlock = some k → k ≠ g ∧ base ≤ k ∧ k < w.heap.size ∧ ∃ cs, Blk w k 3 cs) ∧
    (∀ (w1 : World) (v' : Value) (x : Nat), Fr v.ownBlock.toList w w1 → w1.ownsRow base 3 1 v' (l.length + 1) ((l ++ [x]).map nv) → (v'.ownBlock = v.ownBlock ∨ ∃ k, w.heap.size ≤ k ∧ v'.ownBlock = some k) → ListsAt (w1.setCell ⟨g, i, none⟩ v') base g (ls.set i (l ++ [x]))) := by
  obtain ⟨cs, h⟩ := h
  have hi : i < cs.size := by rw [h.size]; exact (List.getElem?_eq_some_iff.1 hl).1
  obtain ⟨v, hv⟩ := getElem?_of_size hi
  have hown := h.rows i l v hl hv
  have hne : ∀ k, v.ownBlock = some k → k ≠ g ∧ base ≤ k ∧ k < w.heap.size ∧ ∃ cs, Blk w k 3 cs := fun k hk => by
    obtain ⟨h1, h2, cs', hb⟩ := own_block hown hk
    exact ⟨Blk.ne_ hb h.blk (by decide), h1, h2, cs', hb⟩
  refine ⟨v, (h.blk.cell i).trans hv, h.blk.frozen i, hown, hne, fun w1 v' x k hown' hat => ?_⟩
  have hg1 : Blk w1 g 34 cs := h.blk.fr k (fun hm => by
    cases hvb : v.ownBlock with
    | none => rw [hvb] at hm; cases hm
    | some y => rw [hvb] at hm; exact (hne y hvb).1 (List.mem_singleton.1 hm).symm)
  have hv'g : ∀ y, v'.ownBlock = some y → y ≠ g := fun y hy => by
    obtain ⟨_, _, cs', hb⟩ := own_block hown' hy
    exact Blk.ne_ hb hg1 (by decide)
  refine ⟨cs.setIfInBounds i v', hg1.set_ i v', by simp [h.size], h.low, fun j l' u hl' hu => ?_, fun j j' u u' y hu hu' hy hy' => ?_⟩
  · rw [Array.getElem?_setIfInBounds] at hu
    rw [List.getElem?_set] at hl'
    by_cases e : i = j
    · subst e
      rw [if_pos rfl, if_pos (by rw [← h.size]; exact hi)] at hl'
      rw [if_pos rfl, if_pos hi] at hu
      injection hl' with hl'
      injection hu with hu
      subst hl' hu
      rw [List.length_append]
      exact own_fr (S := [g]) hown' ((Fr.refl _ _).set (.inl (by simp)) _) (fun y hy => by simpa using hv'g y hy)
    · rw [if_neg e] at hl' hu
      have ho := h.rows j l' u hl' hu
      have hk : w1.ownsRow base 3 1 u l'.length (l'.map nv) := own_fr ho k (fun y hy hm => by
        cases hvb : v.ownBlock with
        | none => rw [hvb] at hm; cases hm
        | some z =>
          rw [hvb] at hm
          have hyz : y = z := List.mem_singleton.1 hm
          subst hyz
          exact e (h.apart i j v u y hv hu hvb hy))
      refine own_fr (S := [g]) hk ((Fr.refl _ _).set (.inl (by simp)) _) (fun y hy => ?_)
      obtain ⟨_, _, cs', hb⟩ := own_block ho hy
      have := Blk.ne_ hb h.blk (by decide)
      simpa using this
  · rw [Array.getElem?_setIfInBounds] at hu hu'
    have hfresh : ∀ (j : Nat) (u : Value), i ≠ j → cs[j]? = some u → u.ownBlock = some y → v'.ownBlock = some y → False := fun j u e hu hy hy' => by
      have hj : j < cs.size := lt_of_get' hu
      obtain ⟨l', hl'⟩ : ∃ l', ls[j]? = some l' := ⟨_, List.getElem?_eq_getElem (by rw [← h.size]; exact hj)⟩
      obtain ⟨_, hlt, _⟩ := own_block (h.rows j l' u hl' hu) hy
      rcases hat with hat | ⟨z, hz, hat⟩
      · exact e (h.apart i j v u y hv hu (by rw [← hat]; exact hy') hy)
      · rw [hat] at hy'
        injection hy' with hy'
        omega
    by_cases e : i = j
    · subst e
      rw [if_pos rfl, if_pos hi] at hu
      injection hu with hu
      subst hu
      by_cases e' : i = j'
      · exact e'
      · rw [if_neg e'] at hu'
        exact absurd (hfresh j' u' e' hu' hy' hy) id
    · rw [if_neg e] at hu
      by_cases e' : i = j'
      · subst e'
        rw [if_pos rfl, if_pos hi] at hu'
        injection hu' with hu'
        subst hu'
        exact absurd (hfresh j u e hu hy hy') id
      · rw [if_neg e'] at hu'
        exact h.apart j j' u u' y hu hu' hy hy'
theorem repl_get {α : Type} {n i : Nat} {a b : α} (h : (List.replicate n a)[i]? = some b) : i < n ∧ b = a := by
  rw [List.getElem?_replicate] at h
  by_cases hi : i < n
  · rw [if_pos hi] at h
    injection h with h
    exact ⟨hi, h.symm⟩
  · rw [if_neg hi] at h
    cases h
theorem repl_get' {α : Type} {n i : Nat} {a b : α} (h : (Array.replicate n a)[i]? = some b) : i < n ∧ b = a := by
  rw [Array.getElem?_replicate] at h
  by_cases hi : i < n
  · rw [if_pos hi] at h
    injection h with h
    exact ⟨hi, h.symm⟩
  · rw [if_neg hi] at h
    cases h
/-- All rows nil. -/
theorem ListsAt.new (w : World) (n : Nat) (hb : base ≤ w.heap.size) : ListsAt (w.alloc (.cells (Array.replicate n (.slice none 0 0)) 34)) base w.heap.size (List.replicate n []) := by
  refine ⟨_, Blk.new _ _ _, by simp, hb, fun i l v hl hv => ?_, fun i j v u k hv _ hk _ => ?_⟩
  · obtain ⟨_, rfl⟩ := repl_get hl
    obtain ⟨_, rfl⟩ := repl_get' hv
    exact own_nil _ _ _ _
  · obtain ⟨_, rfl⟩ := repl_get' hv
    cases hk
end
end Go.Proofs.Ytdocdgghphhdpaa

/- Walks: depgraph.neighbors. -/
namespace Go.Proofs.Ytdocdgghphhdpaa
open Go.RowKit

theorem ints_info : (Try.prog.info? 34).map (fun i => (i.zero, i.size, i.bytes)) = some (some (.slice none 0 0), 1, 24) := by kernel_rfl
theorem make_lists (n c : Nat) (hnc : n ≤ c) (hc : c ≤ 1000000) (w : World) : (Instr.makeSlice 165 (.int .i64 (n : Int)) (.int .i64 (c : Int))).run Try.prog w = .ok (.slice (some ⟨w.heap.size, 0, none⟩) n c) (w.alloc (.cells (Array.replicate c (.slice none 0 0)) 34)) :=
  run_make_one _ _ _ 24 Try.underlying165 ints_info rfl n c hnc (by omega) hc w

def NbRel (w : World) (g : Nat) (cons : Bool) (n : Nat) (l : List (Int × Int)) (m : Nat) (i : Value) (wr : World) : Prop :=
  ∃ k : Nat, k ≤ l.length ∧ i = .int .i64 k ∧ ListsAt wr w.heap.size g (nbs cons n (toNs (l.take k))) ∧ Fr [] w wr ∧ m = l.length - k
def NbRet (w : World) (cons : Bool) (n : Nat) (l : List (Int × Int)) (e : Ending) (w' : World) : Prop :=
  ∃ g, e = .returned (.slice (some ⟨g, 0, none⟩) n n) ∧ ListsAt w' w.heap.size g (nbs cons n (toNs l)) ∧ Fr [] w w'

end Go.Proofs.Ytdocdgghphhdpaa

