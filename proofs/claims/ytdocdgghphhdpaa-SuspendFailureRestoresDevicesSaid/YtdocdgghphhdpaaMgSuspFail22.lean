/- The plain model of suspend.Trace: rounds, and a number that every round lowers. -/
import Derived.Test.YtdocdgghphhdpaaMgSuspFail21
namespace Go.Proofs.Ytdocdgghphhdpaa
open Go.RowKit

def Seq.mu (S : Seq) : Nat :=
  if S.st = 1 then 8 * S.ord.length + 2 - ((S.ph - 1) * S.ord.length + S.po)
  else if S.st = 2 then 4 * S.ord.length + 1
  else if S.st = 3 then (9 - S.ph) * S.ord.length - S.po else 0

theorem skipF_le {ord : List Nat} {sc : Nat → Bool} : ∀ (f ph po : Nat), po ≤ ord.length → f + ph = 9 →
    (9 - (skipF ord sc f ph po).1) * ord.length - (skipF ord sc f ph po).2.1 ≤ (9 - ph) * ord.length - po
  | 0, ph, po, _, hf => by simp [skipF]
  | f + 1, ph, po, hp, hf => by
    unfold skipF
    split
    · rename_i p hs
      have := scan_some hs
      simp only
      omega
    · refine Nat.le_trans (skipF_le f (ph + 1) 0 (by omega) (by omega)) ?_
      have : (9 - ph) * ord.length = (9 - (ph + 1)) * ord.length + ord.length := by
        rw [show 9 - ph = (9 - (ph + 1)) + 1 by omega, Nat.add_mul]; simp
      omega

theorem Seq.skip_mu {S : Seq} (hst : S.st = 3) (h8 : S.ph ≤ 8) (hp : S.po ≤ S.ord.length) : S.skip.mu ≤ (9 - S.ph) * S.ord.length - S.po := by
  have h := skipF_le (sc := S.sc) (ord := S.ord) (9 - S.ph) S.ph S.po hp (by omega)
  unfold Seq.skip
  generalize skipF S.ord S.sc (9 - S.ph) S.ph S.po = r at h
  obtain ⟨a, b, c⟩ := r
  cases c
  · simpa [Seq.mu, hst] using h
  · simp [Seq.mu]
theorem Seq.undo_mu (S : Seq) (r : Int) : (S.undo r).mu ≤ 4 * S.ord.length :=
  Seq.skip_mu (S := { S with st := 3, rs := r, ph := 5, po := 0 }) rfl (by simp) (by simp)
theorem mul_le3 {n ph po : Nat} (h1 : 1 ≤ ph) (h4 : ph ≤ 4) (hp : po < n) : (ph - 1) * n + po + 1 ≤ 4 * n := by
  have : (ph - 1) * n ≤ 3 * n := Nat.mul_le_mul_right _ (by omega)
  omega
theorem Seq.down_mu {S : Seq} (h : S.Ok) (h1 : S.st = 1) : S.down.mu < S.mu := by
  obtain ⟨g1, g4, gp⟩ := h.down h1
  have h3 := mul_le3 g1 g4 gp
  unfold Seq.down
  by_cases hl : S.po + 1 = S.ord.length
  · by_cases h4 : S.ph = 4
    · simp [Seq.mu, hl, h4, h1]
      omega
    · have : ¬ 4 < S.ph + 1 := by omega
      simp [Seq.mu, hl, this, h1]
      have e : S.ph * S.ord.length = (S.ph - 1) * S.ord.length + S.ord.length := by
        rw [show S.ph = (S.ph - 1) + 1 by omega, Nat.add_mul]; simp
      omega
  · have h4 : ¬ 4 < S.ph := by omega
    simp [Seq.mu, hl, h4, h1]
    omega
theorem Seq.up_mu {S : Seq} (h : S.Ok) (h3 : S.st = 3) (r : Int) : (S.up r).mu < S.mu := by
  obtain ⟨g5, g8, gp⟩ := h.up h3
  have h1 := Seq.skip_mu (S := { S with rs := if S.rs = 0 then r else S.rs, po := S.po + 1 }) h3 g8 (by simp; omega)
  have h2 : S.ord.length ≤ (9 - S.ph) * S.ord.length := Nat.le_mul_of_pos_left _ (by omega)
  simp only at h1
  refine Nat.lt_of_le_of_lt h1 ?_
  simp [Seq.mu, h3]
  omega
theorem Seq.complete_mu {S : Seq} (h : S.Ok) (r : Int) (hs : S.st = 1 ∨ S.st = 3) : (S.complete r).1.mu < S.mu := by
  unfold Seq.complete
  by_cases h1 : S.st = 1
  · simp only [h1, if_true]
    obtain ⟨g1, g4, gp⟩ := h.down h1
    have h3 := mul_le3 g1 g4 gp
    split
    · exact Seq.down_mu h h1
    · refine Nat.lt_of_le_of_lt (Seq.undo_mu S r) ?_
      simp [Seq.mu, h1]
      omega
  · have h3 : S.st = 3 := hs.resolve_left h1
    simp only [h3, if_true]
    simpa using Seq.up_mu h h3 r

def Seq.rouse (S : Seq) : Seq := if S.asleep then S.wake.1 else S
theorem Seq.rouse_ok {S : Seq} (h : S.Ok) : S.rouse.Ok := by
  unfold Seq.rouse
  split
  · exact Seq.wake_ok h
  · exact h
theorem Seq.rouse_mu {S : Seq} : S.rouse.mu ≤ S.mu := by
  unfold Seq.rouse
  split
  · rename_i h
    have h2 : S.st = 2 := by simpa [Seq.asleep] using h
    unfold Seq.wake
    rw [if_pos h2]
    refine Nat.le_trans (Seq.undo_mu S 0) ?_
    simp [Seq.mu, h2]
  · exact Nat.le_refl _

def traceF (res : List Int) : Nat → Seq → List (Nat × Nat) → List (Nat × Nat)
  | 0, _, ops => ops
  | k + 1, S, ops => if S.rouse.next.2 then traceF res k (S.rouse.complete (res.getD ops.length 0)).1 (ops ++ [S.rouse.next.1]) else ops
def seq0 (ord : List Nat) : Seq := { ord := ord, st := if ord.length = 0 then 2 else 1, ph := 1, po := 0, sc := fun _ => false, rs := 0 }
def goodB (l : List Int) : Bool := (List.range l.length).all fun i => decide (0 ≤ l.getD i 0) && decide (l.getD i 0 < (l.length : Int)) && !((l.take i).contains (l.getD i 0))
theorem good_iff {l : List Int} : Good l ↔ goodB l = true := by
  unfold goodB Good GoodTo
  rw [List.all_eq_true]
  constructor
  · intro h i hi
    have hi' : i < l.length := List.mem_range.1 hi
    have := h i l[i] hi' (List.getElem?_eq_getElem hi')
    simp only [List.getD_eq_getElem?_getD, List.getElem?_eq_getElem hi', Option.getD_some, Bool.and_eq_true, decide_eq_true_eq, Bool.not_eq_true', List.contains_eq_mem, decide_eq_false_iff_not]
    exact ⟨⟨this.1, this.2.1⟩, this.2.2⟩
  · intro h i d hi hd
    have := h i (List.mem_range.2 hi)
    simp only [List.getD_eq_getElem?_getD, hd, Option.getD_some, Bool.and_eq_true, decide_eq_true_eq, Bool.not_eq_true', List.contains_eq_mem, decide_eq_false_iff_not] at this
    exact ⟨this.1.1, this.1.2, this.2⟩
def okB (l : List Int) : Bool := decide (l.length ≤ 64) && goodB l
theorem okB_iff {l : List Int} : okB l = true ↔ l.length ≤ 64 ∧ Good l := by
  unfold okB
  rw [Bool.and_eq_true, decide_eq_true_eq, good_iff]
def traceM (l res : List Int) : List (Nat × Nat) := if okB l then traceF res (8 * l.length + 3) (seq0 (l.map Int.toNat)) [] else []
theorem okOrd_of_good {l : List Int} (h64 : l.length ≤ 64) (h : Good l) : OkOrd (l.map Int.toNat) := by
  refine ⟨by simpa using h64, fun d hd => ?_⟩
  obtain ⟨x, hx, rfl⟩ := List.mem_map.1 hd
  obtain ⟨i, hi⟩ := List.mem_iff_getElem?.1 hx
  have := h i x (List.getElem?_eq_some_iff.1 hi).1 hi
  rw [List.length_map]
  omega
theorem seq0_ok {ord : List Nat} (h : OkOrd ord) : (seq0 ord).Ok := by
  by_cases hz : ord.length = 0
  · exact ⟨h, by simp [seq0, hz], by simp [seq0, hz], by simp [seq0, hz]⟩
  · exact ⟨h, by simp [seq0, hz], by simp [seq0, hz]; omega, by simp [seq0, hz]⟩
theorem seq0_mu (ord : List Nat) : (seq0 ord).mu < 8 * ord.length + 3 := by
  by_cases hz : ord.length = 0 <;> simp [seq0, Seq.mu, hz]
def opCells (l : List (Nat × Nat)) : List Value := l.flatMap fun o => [nv o.1, nv o.2]
theorem opCells_length (l : List (Nat × Nat)) : (opCells l).length = l.length * 2 := by
  induction l with
  | nil => rfl
  | cons a l ih => simp [opCells] at ih ⊢; omega
theorem opCells_snoc (l : List (Nat × Nat)) (o : Nat × Nat) : opCells (l ++ [o]) = opCells l ++ [nv o.1, nv o.2] := by simp [opCells]
end Go.Proofs.Ytdocdgghphhdpaa

/- Plain laws: what a suspend sequence still has to do ('plan'), and how the calls change it. No program in sight. -/
namespace Go.Proofs.Ytdocdgghphhdpaa
open Go.RowKit

def rowL (ord : List Nat) (sc : Nat → Bool) (ph : Nat) : Nat → Nat → List (Nat × Nat)
  | 0, _ => []
  | k + 1, po => if sc ((9 - ph) * 64 + devAt ord ph po) then (ph, devAt ord ph po) :: rowL ord sc ph k (po + 1) else rowL ord sc ph k (po + 1)
def upL (ord : List Nat) (sc : Nat → Bool) : Nat → Nat → Nat → List (Nat × Nat)
  | 0, _, _ => []
  | f + 1, ph, po => rowL ord sc ph (ord.length - po) po ++ upL ord sc f (ph + 1) 0
def opAt (ord : List Nat) (m : Nat) : Nat × Nat := (m / ord.length + 1, devAt ord (m / ord.length + 1) (m % ord.length))
def downL (ord : List Nat) : List (Nat × Nat) := (List.range (4 * ord.length)).map (opAt ord)
def Seq.idx (S : Seq) : Nat := (S.ph - 1) * S.ord.length + S.po
def Seq.plan (S : Seq) : List (Nat × Nat) :=
  if S.st = 1 then (downL S.ord).drop S.idx else if S.st = 3 then upL S.ord S.sc (9 - S.ph) S.ph S.po else []
def Seq.Hit (S : Seq) : Prop := S.st = 3 → S.sc ((9 - S.ph) * 64 + S.dev) = true

theorem scan_row {ord : List Nat} {sc : Nat → Bool} {ph : Nat} : ∀ (k po : Nat), match scan ord sc ph k po with
    | some p => rowL ord sc ph k po = (ph, devAt ord ph p) :: rowL ord sc ph (k + po - (p + 1)) (p + 1) ∧ sc ((9 - ph) * 64 + devAt ord ph p) = true
    | none => rowL ord sc ph k po = []
  | 0, po => by simp [scan, rowL]
  | k + 1, po => by
    cases h : sc ((9 - ph) * 64 + devAt ord ph po)
    · have ih := scan_row (ord := ord) (sc := sc) (ph := ph) k (po + 1)
      have e1 : scan ord sc ph (k + 1) po = scan ord sc ph k (po + 1) := by simp [scan, h]
      have e2 : rowL ord sc ph (k + 1) po = rowL ord sc ph k (po + 1) := by simp [rowL, h]
      rw [e1, e2]
      cases hs : scan ord sc ph k (po + 1) with
      | none => rw [hs] at ih; exact ih
      | some p =>
        rw [hs] at ih
        simp only at ih ⊢
        rw [show k + (po + 1) - (p + 1) = k + 1 + po - (p + 1) by omega] at ih
        exact ih
    · have e1 : scan ord sc ph (k + 1) po = some po := by simp [scan, h]
      have e2 : rowL ord sc ph (k + 1) po = (ph, devAt ord ph po) :: rowL ord sc ph k (po + 1) := by simp [rowL, h]
      rw [e1, e2]
      simp only
      exact ⟨by rw [show k + 1 + po - (po + 1) = k by omega], h⟩

theorem skip_up {ord : List Nat} {sc : Nat → Bool} : ∀ (f ph po : Nat), po ≤ ord.length → f + ph = 9 →
    ((skipF ord sc f ph po).2.2 = false → upL ord sc f ph po = ((skipF ord sc f ph po).1, devAt ord (skipF ord sc f ph po).1 (skipF ord sc f ph po).2.1) :: upL ord sc (9 - (skipF ord sc f ph po).1) (skipF ord sc f ph po).1 ((skipF ord sc f ph po).2.1 + 1) ∧
      upL ord sc f ph po = upL ord sc (9 - (skipF ord sc f ph po).1) (skipF ord sc f ph po).1 (skipF ord sc f ph po).2.1 ∧
      sc ((9 - (skipF ord sc f ph po).1) * 64 + devAt ord (skipF ord sc f ph po).1 (skipF ord sc f ph po).2.1) = true) ∧
    ((skipF ord sc f ph po).2.2 = true → upL ord sc f ph po = [])
  | 0, ph, po, _, _ => by simp [skipF, upL]
  | f + 1, ph, po, hp, hf => by
    have hr := scan_row (ord := ord) (sc := sc) (ph := ph) (ord.length - po) po
    unfold skipF
    cases hs : scan ord sc ph (ord.length - po) po with
    | some p =>
      have hb := scan_some hs
      rw [hs] at hr
      simp only at hr
      simp only [Bool.false_eq_true, false_implies, and_true, forall_const]
      rw [show 9 - ph = f + 1 by omega]
      have e2 : rowL ord sc ph (ord.length - p) p = (ph, devAt ord ph p) :: rowL ord sc ph (ord.length - (p + 1)) (p + 1) := by
        rw [show ord.length - p = (ord.length - (p + 1)) + 1 by omega, rowL, if_pos hr.2]
      have e3 : ord.length - po + po - (p + 1) = ord.length - (p + 1) := by omega
      refine ⟨?_, ?_, ?_⟩
      · rw [upL, hr.1, e3, upL]; simp
      · rw [upL, upL, hr.1, e3, e2]
      · rw [show f + 1 = 9 - ph by omega]; exact hr.2
    | none =>
      rw [hs] at hr
      simp only at hr ⊢
      have ih := skip_up (ord := ord) (sc := sc) f (ph + 1) 0 (by omega) (by omega)
      have e : upL ord sc (f + 1) ph po = upL ord sc f (ph + 1) 0 := by rw [upL, hr, List.nil_append]
      rw [e]
      exact ih

theorem Seq.skip_plan {S : Seq} (hst : S.st = 3) (h8 : S.ph ≤ 8) (hp : S.po ≤ S.ord.length) :
    S.skip.plan = upL S.ord S.sc (9 - S.ph) S.ph S.po ∧ S.skip.Hit ∧ (S.skip.st = 4 ↔ upL S.ord S.sc (9 - S.ph) S.ph S.po = []) ∧ S.skip.ord = S.ord ∧ S.skip.sc = S.sc ∧ S.skip.rs = S.rs := by
  have h := skip_up (sc := S.sc) (ord := S.ord) (9 - S.ph) S.ph S.po hp (by omega)
  unfold Seq.skip
  generalize hr : skipF S.ord S.sc (9 - S.ph) S.ph S.po = r at h
  obtain ⟨a, b, c⟩ := r
  cases c
  · have h1 := h.1 rfl
    simp only at h1
    refine ⟨?_, ?_, ?_, rfl, rfl, rfl⟩
    · simp [Seq.plan, hst, h1.2.1]
    · intro _; exact h1.2.2
    · simp only [Bool.false_eq_true, if_false, hst]
      rw [h1.1]
      simp
  · have h1 := h.2 rfl
    refine ⟨?_, ?_, ?_, rfl, rfl, rfl⟩
    · simp [Seq.plan, h1]
    · intro h4; simp at h4
    · simp [h1]

theorem Seq.undo_plan (S : Seq) (r : Int) : (S.undo r).plan = upL S.ord S.sc 4 5 0 ∧ (S.undo r).Hit ∧ ((S.undo r).st = 4 ↔ upL S.ord S.sc 4 5 0 = []) ∧ (S.undo r).ord = S.ord ∧ (S.undo r).sc = S.sc ∧ (S.undo r).rs = r :=
  Seq.skip_plan (S := { S with st := 3, rs := r, ph := 5, po := 0 }) rfl (by simp) (by simp)

theorem Seq.plan3 {S : Seq} (h : S.Ok) (hh : S.Hit) (h3 : S.st = 3) : S.plan = (S.ph, S.dev) :: upL S.ord S.sc (9 - S.ph) S.ph (S.po + 1) := by
  obtain ⟨g5, g8, gp⟩ := h.up h3
  simp only [Seq.plan, h3]
  simp only [show ¬ (3 = 1) by omega, if_false, if_true]
  rw [show 9 - S.ph = (8 - S.ph) + 1 by omega, upL, upL, show S.ord.length - S.po = (S.ord.length - (S.po + 1)) + 1 by omega, rowL, if_pos (show S.sc ((9 - S.ph) * 64 + devAt S.ord S.ph S.po) = true from hh h3)]
  rfl

theorem Seq.up_plan {S : Seq} (h : S.Ok) (hh : S.Hit) (h3 : S.st = 3) (r : Int) : S.plan = (S.ph, S.dev) :: (S.up r).plan ∧ (S.up r).Hit ∧ ((S.up r).st = 4 ↔ (S.up r).plan = []) ∧ (S.up r).ord = S.ord ∧ (S.up r).sc = S.sc ∧
    (S.up r).rs = (if S.rs = 0 then r else S.rs) := by
  obtain ⟨g5, g8, gp⟩ := h.up h3
  have hs := Seq.skip_plan (S := { S with rs := if S.rs = 0 then r else S.rs, po := S.po + 1 }) h3 g8 (by simp; omega)
  refine ⟨?_, hs.2.1, ?_, hs.2.2.2⟩
  · rw [Seq.plan3 h hh h3]
    exact congrArg _ hs.1.symm
  · rw [show (S.up r).plan = _ from hs.1]
    exact hs.2.2.1

theorem div_mod_of {n a b : Nat} (hb : b < n) : (a * n + b) / n = a ∧ (a * n + b) % n = b := by
  have hn : 0 < n := by omega
  constructor
  · rw [Nat.mul_comm, Nat.mul_add_div hn, Nat.div_eq_of_lt hb]; omega
  · rw [Nat.mul_comm, Nat.mul_add_mod, Nat.mod_eq_of_lt hb]
theorem opAt_of {ord : List Nat} {a b : Nat} (hb : b < ord.length) : opAt ord (a * ord.length + b) = (a + 1, devAt ord (a + 1) b) := by
  unfold opAt
  rw [(div_mod_of hb).1, (div_mod_of hb).2]
theorem Seq.plan1 {S : Seq} (h : S.Ok) (h1 : S.st = 1) : S.plan = (S.ph, S.dev) :: (downL S.ord).drop (S.idx + 1) ∧ S.idx < 4 * S.ord.length := by
  obtain ⟨g1, g4, gp⟩ := h.down h1
  have hi : S.idx < 4 * S.ord.length := by have := mul_le3 g1 g4 gp; unfold Seq.idx; omega
  refine ⟨?_, hi⟩
  simp only [Seq.plan, h1, if_true]
  rw [List.drop_eq_getElem_cons (by simpa [downL] using hi)]
  congr 1
  simp only [downL, List.getElem_map, List.getElem_range]
  unfold Seq.idx
  rw [opAt_of gp]
  unfold Seq.dev
  rw [show S.ph - 1 + 1 = S.ph by omega]
theorem Seq.down_plan {S : Seq} (h : S.Ok) (h1 : S.st = 1) : S.plan = (S.ph, S.dev) :: S.down.plan ∧ S.down.ord = S.ord ∧ S.down.rs = S.rs ∧ S.down.sc = setF S.sc (S.ph * 64 + S.dev) ∧
    (S.down.st = 1 ∧ S.down.plan ≠ [] ∨ S.down.st = 2 ∧ S.down.plan = []) ∧ (S.down.st = 1 → S.down.idx = S.idx + 1) ∧ (S.down.st = 2 → S.idx + 1 = 4 * S.ord.length) := by
  obtain ⟨g1, g4, gp⟩ := h.down h1
  have hp := Seq.plan1 h h1
  have hi := hp.2
  have hidx : S.down.st = 1 → S.down.idx = S.idx + 1 := by
    unfold Seq.down Seq.idx
    by_cases hl : S.po + 1 = S.ord.length
    · intro _
      simp only [hl, decide_true, if_true]
      rw [show S.ph + 1 - 1 = (S.ph - 1) + 1 by omega, Nat.add_mul]
      omega
    · simp [hl]; omega
  have hst : S.down.st = 1 ∧ S.idx + 1 < 4 * S.ord.length ∨ S.down.st = 2 ∧ S.idx + 1 = 4 * S.ord.length := by
    unfold Seq.down Seq.idx
    by_cases hl : S.po + 1 = S.ord.length
    · by_cases h4 : S.ph = 4
      · right
        simp [hl, h4]
        omega
      · left
        have : ¬ 4 < S.ph + 1 := by omega
        have h5 : (S.ph - 1) * S.ord.length ≤ 2 * S.ord.length := Nat.mul_le_mul_right _ (by omega)
        simp [hl, this, h1]
        omega
    · left
      have h4 : ¬ 4 < S.ph := by omega
      have := mul_le3 g1 g4 (show S.po + 1 < S.ord.length by omega)
      simp [hl, h4, h1]
      omega
  refine ⟨?_, rfl, rfl, rfl, ?_, hidx, ?_⟩
  · rw [hp.1]
    congr 1
    rcases hst with ⟨hs, _⟩ | ⟨hs, he⟩
    · simp only [Seq.plan, hs, if_true, hidx hs]; rfl
    · simp only [Seq.plan, hs]
      rw [List.drop_eq_nil_of_le (by simp [downL]; omega)]
      simp
  · rcases hst with ⟨hs, hlt⟩ | ⟨hs, he⟩
    · left
      refine ⟨hs, ?_⟩
      simp only [Seq.plan, hs, if_true, hidx hs]
      intro hx
      have := congrArg List.length hx
      simp [downL] at this
      change 4 * S.ord.length - (S.idx + 1) = 0 at this
      omega
    · right
      exact ⟨hs, by simp [Seq.plan, hs]⟩
  · intro hs
    rcases hst with ⟨hs', _⟩ | ⟨_, he⟩
    · rw [hs] at hs'; cases hs'
    · exact he
end Go.Proofs.Ytdocdgghphhdpaa

