/- Walks: depgraph.neighbors, both ways. -/
import Derived.Test.YtdocdgghphhdpaaGraW2bMg
import Derived.Test.YtdocdgghphhdpaaGraW2cMg
import Derived.Test.YtdocdgghphhdpaaMgDeviceTree7
import Derived.Test.YtdocdgghphhdpaaMgDeviceTree0
import Derived.Test.YtdocdgghphhdpaaProg
import Derived.Lib.Hide
import Derived.Deep.LoopGhost
namespace Go.Proofs.Ytdocdgghphhdpaa
open Go.RowKit
theorem neighbors_any (cons : Bool) (n : Nat) (A : Option Addr) (cp : Nat) (l : List (Int × Int)) (w : World) (hr : Row w A (pcs l)) (hok : LinksOk n l) :
    Calls Try.prog 117 #[.int .i64 n, .slice A l.length cp, .bool cons] w (NbRet w cons n l) := by
  cases cons
  · exact neighbors_false n A cp l w hr hok
  · exact neighbors_true n A cp l w hr hok
end Go.Proofs.Ytdocdgghphhdpaa

/- The plain model of the greedy sequence: the smallest node whose suppliers have all been taken, as long as there is one. -/
namespace Go.Proofs.Ytdocdgghphhdpaa

/-- v can be taken behind o. -/
def Ready (L : List (Nat × Nat)) (o : List Nat) (v : Nat) : Prop := v ∉ o ∧ ∀ p ∈ L, p.1 = v → p.2 ∈ o
instance (L : List (Nat × Nat)) (o : List Nat) (v : Nat) : Decidable (Ready L o v) := by unfold Ready; infer_instance
/-- v is the smallest node that can be taken behind o. -/
def Picks (n : Nat) (L : List (Nat × Nat)) (o : List Nat) (v : Nat) : Prop := v < n ∧ Ready L o v ∧ ∀ u, u < v → ¬ Ready L o u
def pick (n : Nat) (L : List (Nat × Nat)) (o : List Nat) : Option Nat := (List.range n).find? fun v => decide (Ready L o v)
theorem pick_some {n : Nat} {L : List (Nat × Nat)} {o : List Nat} {v : Nat} : pick n L o = some v ↔ Picks n L o v := by
  unfold pick Picks
  rw [List.find?_range_eq_some]
  simp only [decide_eq_true_eq, List.mem_range, Bool.not_eq_true', decide_eq_false_iff_not]
  constructor
  · rintro ⟨h1, h2, h3⟩
    exact ⟨h2, h1, h3⟩
  · rintro ⟨h1, h2, h3⟩
    exact ⟨h2, h1, h3⟩
theorem pick_none {n : Nat} {L : List (Nat × Nat)} {o : List Nat} : pick n L o = none ↔ ∀ v, v < n → ¬ Ready L o v := by
  unfold pick
  rw [List.find?_range_eq_none]
  simp

/-- What the sequence has come to: closed under suppliers, each node once. -/
structure SeqOk (n : Nat) (L : List (Nat × Nat)) (o : List Nat) : Prop where
  lt : ∀ v ∈ o, v < n
  nodup : o.Nodup
  closed : ∀ v ∈ o, ∀ p ∈ L, p.1 = v → p.2 ∈ o
theorem SeqOk.nil (n : Nat) (L : List (Nat × Nat)) : SeqOk n L [] := ⟨by simp, by simp, by simp⟩
theorem SeqOk.snoc {n : Nat} {L : List (Nat × Nat)} {o : List Nat} {v : Nat} (h : SeqOk n L o) (hv : v < n) (hr : Ready L o v) : SeqOk n L (o ++ [v]) := by
  refine ⟨fun u hu => ?_, ?_, fun u hu p hp he => ?_⟩
  · rcases List.mem_append.1 hu with h' | h'
    · exact h.lt u h'
    · rw [List.mem_singleton.1 h']; exact hv
  · rw [List.nodup_append]
    exact ⟨h.nodup, by simp, fun a ha b hb => by rw [List.mem_singleton.1 hb]; rintro rfl; exact hr.1 ha⟩
  · rcases List.mem_append.1 hu with h' | h'
    · exact List.mem_append_left _ (h.closed u h' p hp he)
    · rw [List.mem_singleton.1 h'] at he
      exact List.mem_append_left _ (hr.2 p hp he)
theorem nodup_length_le : ∀ {n : Nat} {o : List Nat}, (∀ v ∈ o, v < n) → o.Nodup → o.length ≤ n
  | 0, o, h1, _ => by
    cases o with
    | nil => simp
    | cons a o => exact absurd (h1 a (List.mem_cons_self ..)) (by omega)
  | n + 1, o, h1, h2 => by
    have h3 := nodup_length_le (n := n) (o := o.erase n) (fun v hv => by
      have h4 := h1 v (List.mem_of_mem_erase hv)
      have h5 : v ≠ n := fun e => by
        subst e
        exact (h2.not_mem_erase) hv
      omega) (h2.erase n)
    have h6 := List.le_length_erase (l := o) (a := n)
    omega
theorem SeqOk.length_le {n : Nat} {L : List (Nat × Nat)} {o : List Nat} (h : SeqOk n L o) : o.length ≤ n := nodup_length_le h.lt h.nodup

def greedyF (n : Nat) (L : List (Nat × Nat)) : Nat → List Nat → List Nat
  | 0, o => o
  | f + 1, o => match pick n L o with
    | some v => greedyF n L f (o ++ [v])
    | none => o
def greedy (n : Nat) (L : List (Nat × Nat)) : List Nat := greedyF n L n []
theorem greedyF_ok {n : Nat} {L : List (Nat × Nat)} : ∀ (f : Nat) (o : List Nat), SeqOk n L o → SeqOk n L (greedyF n L f o)
  | 0, _, h => h
  | f + 1, o, h => by
    unfold greedyF
    split
    · rename_i v hv
      obtain ⟨h1, h2, _⟩ := pick_some.1 hv
      exact greedyF_ok f _ (h.snoc h1 h2)
    · exact h
theorem greedy_ok (n : Nat) (L : List (Nat × Nat)) : SeqOk n L (greedy n L) := greedyF_ok n [] (SeqOk.nil n L)
/-- With fuel for all that is left, the end is reached. -/
theorem greedyF_end {n : Nat} {L : List (Nat × Nat)} : ∀ (f : Nat) (o : List Nat), SeqOk n L o → n ≤ f + o.length → pick n L (greedyF n L f o) = none
  | 0, o, h, hf => by
    unfold greedyF
    cases hp : pick n L o with
    | none => rfl
    | some v =>
      obtain ⟨h1, h2, _⟩ := pick_some.1 hp
      have := (h.snoc h1 h2).length_le
      simp at this
      omega
  | f + 1, o, h, hf => by
    unfold greedyF
    split
    · rename_i v hv
      obtain ⟨h1, h2, _⟩ := pick_some.1 hv
      exact greedyF_end f _ (h.snoc h1 h2) (by simp; omega)
    · assumption
theorem greedy_end (n : Nat) (L : List (Nat × Nat)) : pick n L (greedy n L) = none := greedyF_end n [] (SeqOk.nil n L) (by simp)
theorem greedyF_step {n : Nat} {L : List (Nat × Nat)} {f : Nat} {o : List Nat} {v : Nat} (h : pick n L o = some v) (hf : 0 < f) : greedyF n L f o = greedyF n L (f - 1) (o ++ [v]) := by
  obtain ⟨f, rfl⟩ : ∃ k, f = k + 1 := ⟨f - 1, by omega⟩
  rw [greedyF, h]
  rfl
theorem greedyF_stop {n : Nat} {L : List (Nat × Nat)} {f : Nat} {o : List Nat} (h : pick n L o = none) : greedyF n L f o = o := by
  cases f with
  | zero => rfl
  | succ f => rw [greedyF, h]

/-- The links of v whose supplier has not been taken. -/
def lacks (L : List (Nat × Nat)) (o : List Nat) (v : Nat) : Nat := (L.filter fun p => p.1 == v && !(o.contains p.2)).length
def missM (L : List (Nat × Nat)) (o : List Nat) (v : Nat) : Int := if v ∈ o then -1 else (lacks L o v : Int)
theorem lacks_le (L : List (Nat × Nat)) (o : List Nat) (v : Nat) : lacks L o v ≤ L.length := List.length_filter_le _ _
theorem lacks_zero {L : List (Nat × Nat)} {o : List Nat} {v : Nat} : lacks L o v = 0 ↔ ∀ p ∈ L, p.1 = v → p.2 ∈ o := by
  unfold lacks
  rw [List.length_eq_zero_iff, List.filter_eq_nil_iff]
  simp
theorem missM_zero {L : List (Nat × Nat)} {o : List Nat} {v : Nat} : missM L o v = 0 ↔ Ready L o v := by
  unfold missM Ready
  by_cases h : v ∈ o
  · simp [h]
  · rw [if_neg h]
    have := lacks_zero (L := L) (o := o) (v := v)
    simp only [h, not_false_eq_true, true_and]
    rw [← this]
    omega
theorem missM_lo (L : List (Nat × Nat)) (o : List Nat) (v : Nat) : -1 ≤ missM L o v ∧ missM L o v ≤ L.length := by
  unfold missM
  have := lacks_le L o v
  split <;> omega
/-- All that waits for v has one link less to wait for, for each of its links with v. -/
theorem lacks_snoc {L : List (Nat × Nat)} {o : List Nat} {v u : Nat} (hv : v ∉ o) : lacks L o u = lacks L (o ++ [v]) u + (nb true L v).count u := by
  unfold lacks nb
  induction L with
  | nil => rfl
  | cons p L ih =>
    by_cases h1 : p.1 = u
    · by_cases h2 : p.2 = v
      · have h3 : p.2 ∉ o := by rw [h2]; exact hv
        simp [ends, h1, h2, hv] at ih ⊢
        omega
      · by_cases h3 : p.2 ∈ o
        · simp [ends, h1, h2, h3] at ih ⊢
          omega
        · simp [ends, h1, h2, h3] at ih ⊢
          omega
    · by_cases h2 : p.2 = v
      · simp [ends, h1, h2] at ih ⊢
        omega
      · simp [ends, h1, h2] at ih ⊢
        omega
theorem missM_snoc {n : Nat} {L : List (Nat × Nat)} {o : List Nat} {v u : Nat} (h : SeqOk n L o) (hr : Ready L o v) : missM L (o ++ [v]) u = (if u = v then -1 else missM L o u) - ((nb true L v).count u : Int) := by
  have hz : u ∈ o ++ [v] → (nb true L v).count u = 0 := fun hu => by
    rw [List.count_eq_zero]
    intro hm
    have hp : (u, v) ∈ L := by simpa using (nb_mem (cons := true)).1 hm
    rcases List.mem_append.1 hu with h' | h'
    · exact hr.1 (h.closed u h' _ hp rfl)
    · have := List.mem_singleton.1 h'
      subst this
      exact hr.1 (hr.2 _ hp rfl)
  unfold missM
  by_cases hu : u ∈ o ++ [v]
  · rw [if_pos hu, hz hu]
    rcases List.mem_append.1 hu with h' | h'
    · have : u ≠ v := fun e => hr.1 (e ▸ h')
      rw [if_neg this, if_pos h']
      rfl
    · rw [if_pos (List.mem_singleton.1 h')]
      rfl
  · rw [if_neg hu]
    simp only [List.mem_append, List.mem_singleton, not_or] at hu
    rw [if_neg hu.2, if_neg hu.1, lacks_snoc (u := u) hr.1]
    omega
theorem lacks_link (L : List (Nat × Nat)) (p : Nat × Nat) (v : Nat) : lacks (L ++ [p]) [] v = if v = p.1 then lacks L [] v + 1 else lacks L [] v := by
  unfold lacks
  by_cases h : p.1 = v
  · simp [h]
  · have h' : ¬ v = p.1 := fun e => h e.symm
    simp [h, h']
theorem missM_nil (L : List (Nat × Nat)) (v : Nat) : missM L [] v = (lacks L [] v : Int) := by simp [missM]
end Go.Proofs.Ytdocdgghphhdpaa

/- slices.Index at ints, walked. -/
namespace Go.Proofs.Ytdocdgghphhdpaa
open Go.RowKit

/-- The index of the first x, or -1. -/
def idxI {α : Type} [BEq α] (l : List α) (x : α) : Int := match l.idxOf? x with | some i => (i : Int) | none => -1
theorem idxI_none {α : Type} [BEq α] [LawfulBEq α] {l : List α} {x : α} (h : x ∉ l) : idxI l x = -1 := by
  have : l.idxOf? x = none := by rw [List.idxOf?_eq_none_iff]; exact h
  simp [idxI, this]
theorem idxI_some {α : Type} [BEq α] [LawfulBEq α] {l : List α} {x : α} {k : Nat} (h : l[k]? = some x) (hn : x ∉ l.take k) : idxI l x = (k : Int) := by
  have hk : k < l.length := (List.getElem?_eq_some_iff.1 h).1
  have : l.idxOf? x = some k := by
    unfold List.idxOf?
    rw [List.findIdx?_eq_some_iff_getElem]
    refine ⟨hk, by simpa [List.getElem?_eq_getElem hk] using h, fun j hj e => hn ?_⟩
    have e' : l[j]'(by omega) = x := by simpa using e
    rw [List.mem_iff_getElem?]
    exact ⟨j, by rw [List.getElem?_take, if_pos hj, List.getElem?_eq_getElem (by omega), e']⟩
  simp [idxI, this]

def IdxRel {α : Type} (w : World) (l : List α) (x : α) (m : Nat) (i : Value) (wr : World) : Prop := ∃ k : Nat, k ≤ l.length ∧ i = .int .i64 k ∧ x ∉ l.take k ∧ w = wr ∧ m = l.length - k

set_option maxHeartbeats 1000000 in
theorem indexInts_any (A : Option Addr) (cp : Nat) (l : List Int) (x : Int) (w : World) (hr : Row w A (l.map (Value.int .i64))) (hn : l.length ≤ 4096) :
    Calls Try.prog 118 #[.slice A l.length cp, .int .i64 x] w fun e w' => e = .returned (.int .i64 (idxI l x)) ∧ w = w' := by
  have HR := hide hr
  clear hr
  go_enter Try.func118, Try.ntmps118
  go_wp2
  go_loopg [8] l.length (fun m i wr => IdxRel w l x m i wr)
  case atStart => exact ⟨0, by omega, rfl, by simp, rfl, rfl⟩
  case round =>
    obtain ⟨k, hk, rfl, hnp, rfl, hmm⟩ := hrel
    have HM := hide hmm
    have HNP := hide hnp
    clear hmm hnp
    by_cases hlt : k < l.length
    · obtain ⟨y, hy⟩ : ∃ y, l[k]? = some y := ⟨_, List.getElem?_eq_getElem hlt⟩
      obtain ⟨ob, oo, rfl, c1⟩ := HR.out.int hy
      have hkl : (k : Int) < (l.length : Int) := by omega
      have HY := hide hy
      clear hy
      by_cases e : x = y
      · subst e
        have eb : (x == x) = true := by simp
        go_wp2
        go_ret
        exact ⟨ret_int (idxI_some HY.out HNP.out).symm, rfl⟩
      · have eb : (x == y) = false := by simp [e]
        go_wp2
        go_roundg (l.length - (k + 1))
        case measure => rw [HM.out]; omega
        case rel =>
          refine ⟨k + 1, by omega, by go_num, ?_, rfl, rfl⟩
          rw [List.take_add_one, HY.out]
          simp only [Option.toList_some, List.mem_append, List.mem_singleton, not_or]
          exact ⟨HNP.out, e⟩
    · have hkl : ¬ (k : Int) < (l.length : Int) := by omega
      go_wp2
      go_ret
      refine ⟨ret_int (idxI_none ?_).symm, rfl⟩
      have := HNP.out
      rwa [List.take_of_length_le (by omega)] at this
end Go.Proofs.Ytdocdgghphhdpaa

