/- The plain model of suspend.Trace: rounds, and a number that every round lowers. -/
import Derived.Test.YtgbkgiglagfciaaSuspW5
namespace Go.Proofs.Ytgbkgiglagfciaa
open Go.RowKit

def Seq.mu (S : Seq) : Nat :=
  if S.st = 1 then 8 * S.ord.length + 2 - ((S.ph - 1) * S.ord.length + S.po)
  else if S.st = 2 then 4 * S.ord.length + 1
  else if S.st = 3 then (9 - S.ph) * S.ord.length - S.po else 0

theorem skipF_le {ord : List Nat} {sc : Nat → Bool} : ∀ (f ph po : Nat), po ≤ ord.length → f + ph = 9 →
    (9 - (skipF ord sc f ph po).1) * ord.length - (skipF ord sc f ph po).2.1 ≤ (9 - ph) * ord.length - po
  | 0, ph, po, _, hf => by simp [skipF]
  | f + 1, ph, po, hp, hf => by
    unfold skipF
    split
    · rename_i p hs
      have := scan_some hs
      simp only
      omega
    · refine Nat.le_trans (skipF_le f (ph + 1) 0 (by omega) (by omega)) ?_
      have : (9 - ph) * ord.length = (9 - (ph + 1)) * ord.length + ord.length := by
        rw [show 9 - ph = (9 - (ph + 1)) + 1 by omega, Nat.add_mul]; simp
      omega

theorem Seq.skip_mu {S : Seq} (hst : S.st = 3) (h8 : S.ph ≤ 8) (hp : S.po ≤ S.ord.length) : S.skip.mu ≤ (9 - S.ph) * S.ord.length - S.po := by
  have h := skipF_le (sc := S.sc) (ord := S.ord) (9 - S.ph) S.ph S.po hp (by omega)
  unfold Seq.skip
  generalize skipF S.ord S.sc (9 - S.ph) S.ph S.po = r at h
  obtain ⟨a, b, c⟩ := r
  cases c
  · simpa [Seq.mu, hst] using h
  · simp [Seq.mu]
theorem Seq.undo_mu (S : Seq) (r : Int) : (S.undo r).mu ≤ 4 * S.ord.length :=
  Seq.skip_mu (S := { S with st := 3, rs := r, ph := 5, po := 0 }) rfl (by simp) (by simp)
theorem mul_le3 {n ph po : Nat} (h1 : 1 ≤ ph) (h4 : ph ≤ 4) (hp : po < n) : (ph - 1) * n + po + 1 ≤ 4 * n := by
  have : (ph - 1) * n ≤ 3 * n := Nat.mul_le_mul_right _ (by omega)
  omega
theorem Seq.down_mu {S : Seq} (h : S.Ok) (h1 : S.st = 1) : S.down.mu < S.mu := by
  obtain ⟨g1, g4, gp⟩ := h.down h1
  have h3 := mul_le3 g1 g4 gp
  unfold Seq.down
  by_cases hl : S.po + 1 = S.ord.length
  · by_cases h4 : S.ph = 4
    · simp [Seq.mu, hl, h4, h1]
      omega
    · have : ¬ 4 < S.ph + 1 := by omega
      simp [Seq.mu, hl, this, h1]
      have e : S.ph * S.ord.length = (S.ph - 1) * S.ord.length + S.ord.length := by
        rw [show S.ph = (S.ph - 1) + 1 by omega, Nat.add_mul]; simp
      omega
  · have h4 : ¬ 4 < S.ph := by omega
    simp [Seq.mu, hl, h4, h1]
    omega
theorem Seq.up_mu {S : Seq} (h : S.Ok) (h3 : S.st = 3) (r : Int) : (S.up r).mu < S.mu := by
  obtain ⟨g5, g8, gp⟩ := h.up h3
  have h1 := Seq.skip_mu (S := { S with rs := if S.rs = 0 then r else S.rs, po := S.po + 1 }) h3 g8 (by simp; omega)
  have h2 : S.ord.length ≤ (9 - S.ph) * S.ord.length := Nat.le_mul_of_pos_left _ (by omega)
  simp only at h1
  refine Nat.lt_of_le_of_lt h1 ?_
  simp [Seq.mu, h3]
  omega
theorem Seq.complete_mu {S : Seq} (h : S.Ok) (r : Int) (hs : S.st = 1 ∨ S.st = 3) : (S.complete r).1.mu < S.mu := by
  unfold Seq.complete
  by_cases h1 : S.st = 1
  · simp only [h1, if_true]
    obtain ⟨g1, g4, gp⟩ := h.down h1
    have h3 := mul_le3 g1 g4 gp
    split
    · exact Seq.down_mu h h1
    · refine Nat.lt_of_le_of_lt (Seq.undo_mu S r) ?_
      simp [Seq.mu, h1]
      omega
  · have h3 : S.st = 3 := hs.resolve_left h1
    simp only [h3, if_true]
    simpa using Seq.up_mu h h3 r

def Seq.rouse (S : Seq) : Seq := if S.asleep then S.wake.1 else S
theorem Seq.rouse_ok {S : Seq} (h : S.Ok) : S.rouse.Ok := by
  unfold Seq.rouse
  split
  · exact Seq.wake_ok h
  · exact h
theorem Seq.rouse_mu {S : Seq} : S.rouse.mu ≤ S.mu := by
  unfold Seq.rouse
  split
  · rename_i h
    have h2 : S.st = 2 := by simpa [Seq.asleep] using h
    unfold Seq.wake
    rw [if_pos h2]
    refine Nat.le_trans (Seq.undo_mu S 0) ?_
    simp [Seq.mu, h2]
  · exact Nat.le_refl _

def traceF (res : List Int) : Nat → Seq → List (Nat × Nat) → List (Nat × Nat)
  | 0, _, ops => ops
  | k + 1, S, ops => if S.rouse.next.2 then traceF res k (S.rouse.complete (res.getD ops.length 0)).1 (ops ++ [S.rouse.next.1]) else ops
def seq0 (ord : List Nat) : Seq := { ord := ord, st := if ord.length = 0 then 2 else 1, ph := 1, po := 0, sc := fun _ => false, rs := 0 }
def goodB (l : List Int) : Bool := (List.range l.length).all fun i => decide (0 ≤ l.getD i 0) && decide (l.getD i 0 < (l.length : Int)) && !((l.take i).contains (l.getD i 0))
theorem good_iff {l : List Int} : Good l ↔ goodB l = true := by
  unfold goodB Good GoodTo
  rw [List.all_eq_true]
  constructor
  · intro h i hi
    have hi' : i < l.length := List.mem_range.1 hi
    have := h i l[i] hi' (List.getElem?_eq_getElem hi')
    simp only [List.getD_eq_getElem?_getD, List.getElem?_eq_getElem hi', Option.getD_some, Bool.and_eq_true, decide_eq_true_eq, Bool.not_eq_true', List.contains_eq_mem, decide_eq_false_iff_not]
    exact ⟨⟨this.1, this.2.1⟩, this.2.2⟩
  · intro h i d hi hd
    have := h i (List.mem_range.2 hi)
    simp only [List.getD_eq_getElem?_getD, hd, Option.getD_some, Bool.and_eq_true, decide_eq_true_eq, Bool.not_eq_true', List.contains_eq_mem, decide_eq_false_iff_not] at this
    exact ⟨this.1.1, this.1.2, this.2⟩
def okB (l : List Int) : Bool := decide (l.length ≤ 64) && goodB l
theorem okB_iff {l : List Int} : okB l = true ↔ l.length ≤ 64 ∧ Good l := by
  unfold okB
  rw [Bool.and_eq_true, decide_eq_true_eq, good_iff]
def traceM (l res : List Int) : List (Nat × Nat) := if okB l then traceF res (8 * l.length + 3) (seq0 (l.map Int.toNat)) [] else []
theorem okOrd_of_good {l : List Int} (h64 : l.length ≤ 64) (h : Good l) : OkOrd (l.map Int.toNat) := by
  refine ⟨by simpa using h64, fun d hd => ?_⟩
  obtain ⟨x, hx, rfl⟩ := List.mem_map.1 hd
  obtain ⟨i, hi⟩ := List.mem_iff_getElem?.1 hx
  have := h i x (List.getElem?_eq_some_iff.1 hi).1 hi
  rw [List.length_map]
  omega
theorem seq0_ok {ord : List Nat} (h : OkOrd ord) : (seq0 ord).Ok := by
  by_cases hz : ord.length = 0
  · exact ⟨h, by simp [seq0, hz], by simp [seq0, hz], by simp [seq0, hz]⟩
  · exact ⟨h, by simp [seq0, hz], by simp [seq0, hz]; omega, by simp [seq0, hz]⟩
theorem seq0_mu (ord : List Nat) : (seq0 ord).mu < 8 * ord.length + 3 := by
  by_cases hz : ord.length = 0 <;> simp [seq0, Seq.mu, hz]
def opCells (l : List (Nat × Nat)) : List Value := l.flatMap fun o => [nv o.1, nv o.2]
theorem opCells_length (l : List (Nat × Nat)) : (opCells l).length = l.length * 2 := by
  induction l with
  | nil => rfl
  | cons a l ih => simp [opCells] at ih ⊢; omega
theorem opCells_snoc (l : List (Nat × Nat)) (o : Nat × Nat) : opCells (l ++ [o]) = opCells l ++ [nv o.1, nv o.2] := by simp [opCells]
end Go.Proofs.Ytgbkgiglagfciaa
