/- Plain laws: a sequence that goes to sleep without an error ('Dn'), and one that wakes or undoes ('Un'). -/
import Derived.Test.YtdocdgghphhdpaaSuspR1Mg
namespace Go.Proofs.Ytdocdgghphhdpaa
open Go.RowKit

structure Dn (S : Seq) (o : List Nat) (k : Nat) : Prop where
  ok : S.Ok
  ord : S.ord = o
  sc : ScIs S.sc ((downL o).take k)
  st : (k < 4 * o.length ∧ S.st = 1 ∧ S.idx = k) ∨ (k = 4 * o.length ∧ S.st = 2)
  rs : S.rs = 0
structure Un (S : Seq) (L : List (Nat × Nat)) (c : Int) : Prop where
  ok : S.Ok
  hit : S.Hit
  plan : S.plan = L
  st : S.st = 3 ∨ S.st = 4
  rs : S.rs = c

theorem Dn.init {o : List Nat} (ho : OkOrd o) : Dn (seq0 o) o 0 := by
  refine ⟨seq0_ok ho, rfl, by simpa [seq0] using scIs_nil, ?_, rfl⟩
  by_cases hz : o.length = 0
  · right; simp [seq0, hz]
  · left; simp [seq0, hz, Seq.idx]; omega
theorem Dn.step {S : Seq} {o : List Nat} {k : Nat} (h : Dn S o k) (hk : k < 4 * o.length) : S.complete 0 = (S.down, 0) ∧ Dn S.down o (k + 1) := by
  rcases h.st with ⟨_, h1, hi⟩ | ⟨e, _⟩
  · refine ⟨by simp [Seq.complete, h1], ?_⟩
    obtain ⟨hd1, hd2, hd7, hd3, hd4, hd5, hd6⟩ := Seq.down_plan h.ok h1
    obtain ⟨g1, g4, gp⟩ := h.ok.down h1
    have hdev : S.dev < 64 := by have := devAt_lt h.ok.ord (ph := S.ph) gp; have := h.ok.ord.1; unfold Seq.dev; omega
    have hp1 := Seq.plan1 h.ok h1
    have hdrop : (downL S.ord).drop S.idx = (S.ph, S.dev) :: (downL S.ord).drop (S.idx + 1) := by
      have := hp1.1
      simp only [Seq.plan, h1, if_true] at this
      exact this
    refine ⟨Seq.down_ok h.ok h1, hd2.trans h.ord, ?_, ?_, hd7.trans h.rs⟩
    · rw [hd3, ← h.ord, ← hi, take_snoc_getElem hdrop]
      refine ScIs.snoc ?_ hdev
      rw [hi, h.ord]
      exact h.sc
    · rcases hd4 with ⟨hs, hne⟩ | ⟨hs, hpl⟩
      · left
        have hidx := hd5 hs
        have hlt := (Seq.plan1 (Seq.down_ok h.ok h1) hs).2
        rw [hd2, h.ord] at hlt
        exact ⟨by omega, hs, by omega⟩
      · right
        have := hd6 hs
        rw [h.ord] at this
        exact ⟨by omega, hs⟩
  · omega
theorem Dn.next {S : Seq} {o : List Nat} {k : Nat} (h : Dn S o k) (hk : k < 4 * o.length) : S.next = (opAt o k, true) := by
  rcases h.st with ⟨_, h1, hi⟩ | ⟨e, _⟩
  · rw [Seq.next_of (.inl h1)]
    obtain ⟨g1, g4, gp⟩ := h.ok.down h1
    rw [← hi, ← h.ord]
    unfold Seq.idx
    rw [opAt_of gp, show S.ph - 1 + 1 = S.ph by omega]
    rfl
  · omega
theorem Dn.asleep {S : Seq} {o : List Nat} {k : Nat} (h : Dn S o k) : S.asleep = decide (k = 4 * o.length) := by
  rcases h.st with ⟨hk, h1, hi⟩ | ⟨e, h2⟩
  · have : ¬ k = 4 * o.length := by omega
    simp [Seq.asleep, h1, this]
  · simp [Seq.asleep, h2, e]

theorem opAt_nodup {o : List Nat} (hn : o.Nodup) (ho : OkOrd o) : (downL o).Nodup := by
  unfold downL List.Nodup
  rw [List.pairwise_map]
  refine (List.pairwise_lt_range (n := 4 * o.length)).imp_of_mem ?_
  intro i j hi hj hij e
  have hj' : j < 4 * o.length := List.mem_range.1 hj
  refine mem_take_downL_lt hn hj' ho ?_
  rw [← e]
  refine List.mem_iff_getElem?.2 ⟨i, ?_⟩
  rw [List.getElem?_take, if_pos hij]
  unfold downL
  rw [List.getElem?_map, List.getElem?_range (by omega)]
  rfl
def goodK (o : List Nat) (k : Nat) : List (Nat × Nat) := (downL o).take k
theorem goodK_nodup {o : List Nat} (hn : o.Nodup) (ho : OkOrd o) (k : Nat) : (goodK o k).Nodup := (opAt_nodup hn ho).sublist (List.take_sublist _ _)
theorem Dn.undo {S : Seq} {o : List Nat} {k : Nat} (h : Dn S o k) (hn : o.Nodup) (c : Int) : Un (S.undo c) (undoPlan o (goodK o k)) c := by
  have hu := Seq.undo_plan S c
  have ho : OkOrd o := h.ord ▸ h.ok.ord
  refine ⟨Seq.undo_ok h.ok.ord c, hu.2.1, ?_, Seq.undo_st S c, hu.2.2.2.2.2⟩
  rw [hu.1, h.ord]
  exact (undoPlan_eq ho h.sc (goodK_nodup hn ho k)).symm
theorem Dn.fail {S : Seq} {o : List Nat} {k : Nat} (h : Dn S o k) (hn : o.Nodup) (hk : k < 4 * o.length) {c : Int} (hc : c ≠ 0) : (S.complete c).2 = 0 ∧ Un (S.complete c).1 (undoPlan o (goodK o k)) c := by
  rcases h.st with ⟨_, h1, hi⟩ | ⟨e, _⟩
  · have e : S.complete c = (S.undo c, 0) := by simp [Seq.complete, h1, hc]
    rw [e]
    exact ⟨rfl, h.undo hn c⟩
  · omega
theorem Dn.abort {S : Seq} {o : List Nat} {k : Nat} (h : Dn S o k) (hn : o.Nodup) (hk : k < 4 * o.length) : S.abort.2 = 0 ∧ Un S.abort.1 (undoPlan o (goodK o k)) 20 := by
  rcases h.st with ⟨_, h1, hi⟩ | ⟨e, _⟩
  · have e : S.abort = (S.undo 20, 0) := by simp [Seq.abort, h1]
    rw [e]
    exact ⟨rfl, h.undo hn 20⟩
  · omega
theorem Dn.wake {S : Seq} {o : List Nat} {k : Nat} (h : Dn S o k) (hn : o.Nodup) (hk : k = 4 * o.length) : S.wake.2 = 0 ∧ Un S.wake.1 (undoPlan o (goodK o k)) 0 := by
  rcases h.st with ⟨_, h1, hi⟩ | ⟨_, h2⟩
  · omega
  · have e : S.wake = (S.undo 0, 0) := by simp [Seq.wake, h2]
    rw [e]
    exact ⟨rfl, h.undo hn 0⟩
theorem Un.st3 {S : Seq} {x : Nat × Nat} {L : List (Nat × Nat)} {c : Int} (h : Un S (x :: L) c) : S.st = 3 := by
  rcases h.st with h3 | h4
  · exact h3
  · have := h.plan; simp [Seq.plan, h4] at this
theorem Un.st4 {S : Seq} {c : Int} (h : Un S [] c) : S.st = 4 := by
  rcases h.st with h3 | h4
  · have := h.plan; rw [Seq.plan3 h.ok h.hit h3] at this; cases this
  · exact h4
theorem Un.step {S : Seq} {x : Nat × Nat} {L : List (Nat × Nat)} {c : Int} (h : Un S (x :: L) c) (r : Int) : (S.complete r).2 = 0 ∧ Un (S.complete r).1 L (if c = 0 then r else c) := by
  have h3 := h.st3
  have e : S.complete r = (S.up r, 0) := by simp [Seq.complete, h3]
  rw [e]
  obtain ⟨hu1, hu2, hu3, hu4, hu5, hu6⟩ := Seq.up_plan h.ok h.hit h3 r
  refine ⟨rfl, Seq.up_ok h.ok h3 r, hu2, ?_, ?_, by rw [hu6, h.rs]⟩
  · rw [h.plan] at hu1
    injection hu1 with _ h2
    exact h2.symm
  · show (Seq.skip _).st = 3 ∨ (Seq.skip _).st = 4
    unfold Seq.skip
    simp only
    split
    · exact .inr rfl
    · exact .inl h3
theorem Un.next {S : Seq} {x : Nat × Nat} {L : List (Nat × Nat)} {c : Int} (h : Un S (x :: L) c) : S.next = (x, true) := by
  have h3 := h.st3
  rw [Seq.next_of (.inr h3)]
  have := h.plan
  rw [Seq.plan3 h.ok h.hit h3] at this
  injection this with h1 _
  rw [h1]
theorem Un.next0 {S : Seq} {c : Int} (h : Un S [] c) : S.next = ((0, 0), false) := by
  have := h.st4
  simp [Seq.next, this]
theorem Un.result {S : Seq} {x : Nat × Nat} {L : List (Nat × Nat)} {c : Int} (h : Un S (x :: L) c) : S.result = (0, false) := by simp [Seq.result, h.st3]
theorem Un.result0 {S : Seq} {c : Int} (h : Un S [] c) : S.result = (c, true) := by simp [Seq.result, h.st4, h.rs]
theorem Un.done {S : Seq} {c : Int} (h : Un S [] c) (r : Int) : S.complete r = (S, 9) := by simp [Seq.complete, h.st4]
theorem Un.asleep {S : Seq} {L : List (Nat × Nat)} {c : Int} (h : Un S L c) : S.asleep = false := by
  rcases h.st with h3 | h4 <;> simp [Seq.asleep, *]

theorem undoPlan_full {o : List Nat} (hn : o.Nodup) (ho : OkOrd o) : undoPlan o (goodK o (4 * o.length)) = fullUp o := by
  have e : goodK o (4 * o.length) = downL o := List.take_of_length_le (by simp [downL])
  rw [e]
  have hs : ScIs (fun i => decide ((i / 64, i % 64) ∈ downL o)) (downL o) := by
    intro p d hp hd
    have h1 : (p * 64 + d) / 64 = p := by omega
    have h2 : (p * 64 + d) % 64 = d := by omega
    simp [h1, h2]
  rw [undoPlan_eq ho hs (opAt_nodup hn ho), upL_full ho hs]
theorem fullUp_length (o : List Nat) : (fullUp o).length = 4 * o.length := by simp [fullUp, rowAll]; omega

/-! What is undone: each success once, later phases first. -/
theorem mem_hits {G : List (Nat × Nat)} {x y z : Nat × Nat} (hn : G.Nodup) : y ∈ hits G x z ↔ x ∈ G ∧ y = z := by
  rw [hits_one hn]
  split <;> simp [*]
theorem hits_nodup {G : List (Nat × Nat)} {x z : Nat × Nat} (hn : G.Nodup) : (hits G x z).Pairwise (· ≠ ·) := by
  rw [hits_one hn]
  split <;> simp
theorem mem_undoRow {o : List Nat} {G : List (Nat × Nat)} {p : Nat} {x : Nat × Nat} (hn : G.Nodup) : x ∈ undoRow o G p ↔ x.1 = 9 - p ∧ (∃ i, i < o.length ∧ x.2 = o.getD (if (p == 1) then o.length - 1 - i else i) 0) ∧ (p, x.2) ∈ G := by
  unfold undoRow phaseL
  simp only [List.mem_flatMap, List.mem_map, List.mem_range]
  constructor
  · rintro ⟨_, ⟨i, hi, rfl⟩, hx⟩
    obtain ⟨hm, rfl⟩ := (mem_hits hn).1 hx
    exact ⟨rfl, ⟨i, hi, rfl⟩, hm⟩
  · rintro ⟨h1, ⟨i, hi, h2⟩, hm⟩
    refine ⟨_, ⟨i, hi, rfl⟩, (mem_hits hn).2 ?_⟩
    rw [← h2]
    exact ⟨hm, Prod.ext h1 rfl⟩
def mir (x : Nat × Nat) : Nat × Nat := (9 - x.1, x.2)
theorem mem_goodK {o : List Nat} (ho : OkOrd o) {k : Nat} {x : Nat × Nat} (h : x ∈ goodK o k) : 1 ≤ x.1 ∧ x.1 ≤ 4 ∧ x.2 ∈ o := by
  have hm : x ∈ downL o := List.mem_of_mem_take h
  unfold downL at hm
  obtain ⟨i, hi, rfl⟩ := List.mem_map.1 hm
  have hi' : i < 4 * o.length := List.mem_range.1 hi
  have hl : 0 < o.length := by omega
  have hd : i / o.length < 4 := (Nat.div_lt_iff_lt_mul hl).2 hi'
  have hmod : i % o.length < o.length := Nat.mod_lt _ hl
  refine ⟨by simp [opAt], by simp [opAt]; omega, ?_⟩
  simp only [opAt, devAt]
  split
  · rw [List.getD_eq_getElem?_getD, List.getElem?_eq_getElem (show o.length - 1 - i % o.length < o.length by omega)]
    exact List.getElem_mem _
  · rw [List.getD_eq_getElem?_getD, List.getElem?_eq_getElem hmod]
    exact List.getElem_mem _
theorem mem_undoPlan {o : List Nat} (hn : o.Nodup) (ho : OkOrd o) {k : Nat} {x : Nat × Nat} : x ∈ undoPlan o (goodK o k) ↔ x ∈ (goodK o k).map mir := by
  have hg := goodK_nodup hn ho k
  unfold undoPlan
  simp only [List.mem_append, mem_undoRow hg, List.mem_map]
  constructor
  · rintro (⟨h1, _, h3⟩ | ⟨h1, _, h3⟩ | ⟨h1, _, h3⟩ | ⟨h1, _, h3⟩)
    all_goals exact ⟨_, h3, by unfold mir; rw [← h1]⟩
  · rintro ⟨⟨p, d⟩, hm, rfl⟩
    have h := mem_goodK ho hm
    obtain ⟨i, hi⟩ := List.mem_iff_getElem?.1 h.2.2
    have hlt : i < o.length := (List.getElem?_eq_some_iff.1 hi).1
    have hgd : o.getD i 0 = d := by rw [List.getD_eq_getElem?_getD, hi]; rfl
    have hgd2 : o.getD (o.length - 1 - (o.length - 1 - i)) 0 = d := by rw [show o.length - 1 - (o.length - 1 - i) = i by omega]; exact hgd
    have hp : p = 4 ∨ p = 3 ∨ p = 2 ∨ p = 1 := by have := h.1; have := h.2.1; simp only at *; omega
    rcases hp with rfl | rfl | rfl | rfl
    · exact .inl ⟨rfl, ⟨i, hlt, hgd.symm⟩, hm⟩
    · exact .inr (.inl ⟨rfl, ⟨i, hlt, hgd.symm⟩, hm⟩)
    · exact .inr (.inr (.inl ⟨rfl, ⟨i, hlt, hgd.symm⟩, hm⟩))
    · exact .inr (.inr (.inr ⟨rfl, ⟨o.length - 1 - i, by omega, hgd2.symm⟩, hm⟩))
theorem getD_inj {o : List Nat} (hn : o.Nodup) {i j : Nat} (hi : i < o.length) (hj : j < o.length) (h : o.getD i 0 = o.getD j 0) : i = j := by
  rw [List.getD_eq_getElem?_getD, List.getD_eq_getElem?_getD, List.getElem?_eq_getElem hi, List.getElem?_eq_getElem hj] at h
  exact (List.getElem_inj hn).1 h
theorem undoRow_nodup {o : List Nat} {G : List (Nat × Nat)} (hn : o.Nodup) (hg : G.Nodup) (p : Nat) : (undoRow o G p).Nodup := by
  unfold undoRow phaseL List.Nodup
  rw [List.flatMap_map, List.pairwise_flatMap]
  constructor
  · intro i _
    exact hits_nodup hg
  · refine (List.pairwise_lt_range (n := o.length)).imp_of_mem ?_
    intro i j hi hj hij x hx y hy e
    have hi' : i < o.length := List.mem_range.1 hi
    have hj' : j < o.length := List.mem_range.1 hj
    subst e
    have e1 := ((mem_hits hg).1 hx).2
    have e2 := ((mem_hits hg).1 hy).2
    rw [e1] at e2
    injection e2 with _ e3
    simp only at e3
    cases hp : (p == 1)
    · simp only [hp, Bool.false_eq_true, if_false] at e3
      have := getD_inj hn hi' hj' e3
      omega
    · simp only [hp, if_true] at e3
      have := getD_inj hn (show o.length - 1 - i < o.length by omega) (by omega) e3
      omega
theorem undoRow_ph {o : List Nat} {G : List (Nat × Nat)} (hg : G.Nodup) {p : Nat} {x : Nat × Nat} (h : x ∈ undoRow o G p) : x.1 = 9 - p := ((mem_undoRow hg).1 h).1
theorem undoPlan_sorted {o : List Nat} {G : List (Nat × Nat)} (hg : G.Nodup) : (undoPlan o G).Pairwise (fun x y => x.1 ≤ y.1) := by
  have h1 : ∀ p, (undoRow o G p).Pairwise (fun x y => x.1 ≤ y.1) := fun p => by
    rw [List.pairwise_iff_forall_sublist]
    intro a b hs
    have ha := undoRow_ph hg (hs.subset (show a ∈ [a, b] by simp))
    have hb := undoRow_ph hg (hs.subset (show b ∈ [a, b] by simp))
    omega
  unfold undoPlan
  simp only [List.pairwise_append, List.mem_append]
  refine ⟨h1 4, ⟨h1 3, ⟨h1 2, h1 1, ?_⟩, ?_⟩, ?_⟩
  · intro a ha b hb
    have := undoRow_ph hg ha
    have := undoRow_ph hg hb
    omega
  · intro a ha b hb
    have := undoRow_ph hg ha
    rcases hb with hb | hb <;> have := undoRow_ph hg hb <;> omega
  · intro a ha b hb
    have := undoRow_ph hg ha
    rcases hb with hb | hb | hb <;> have := undoRow_ph hg hb <;> omega
theorem undoPlan_nodup {o : List Nat} {G : List (Nat × Nat)} (hn : o.Nodup) (hg : G.Nodup) : (undoPlan o G).Nodup := by
  unfold undoPlan
  rw [List.nodup_append, List.nodup_append, List.nodup_append]
  simp only [List.mem_append]
  refine ⟨undoRow_nodup hn hg 4, ⟨undoRow_nodup hn hg 3, ⟨undoRow_nodup hn hg 2, undoRow_nodup hn hg 1, ?_⟩, ?_⟩, ?_⟩
  · intro a ha b hb e
    subst e
    have := undoRow_ph hg ha
    have := undoRow_ph hg hb
    omega
  · intro a ha b hb e
    subst e
    have := undoRow_ph hg ha
    rcases hb with hb | hb <;> have := undoRow_ph hg hb <;> omega
  · intro a ha b hb e
    subst e
    have := undoRow_ph hg ha
    rcases hb with hb | hb | hb <;> have := undoRow_ph hg hb <;> omega
theorem mir_nodup {o : List Nat} (hn : o.Nodup) (ho : OkOrd o) (k : Nat) : ((goodK o k).map mir).Nodup := by
  unfold List.Nodup
  rw [List.pairwise_map]
  refine (goodK_nodup hn ho k).imp_of_mem ?_
  intro a b ha hb hne e
  have h1 := mem_goodK ho ha
  have h2 := mem_goodK ho hb
  unfold mir at e
  injection e with e1 e2
  refine hne (Prod.ext ?_ e2)
  omega
theorem undo_perm {o : List Nat} (hn : o.Nodup) (ho : OkOrd o) (k : Nat) : (undoPlan o (goodK o k)).Perm ((goodK o k).map mir) := by
  rw [List.perm_iff_count]
  intro a
  rw [(undoPlan_nodup hn (goodK_nodup hn ho k)).count, (mir_nodup hn ho k).count]
  simp only [mem_undoPlan hn ho]
theorem undo_length {o : List Nat} (hn : o.Nodup) (ho : OkOrd o) (k : Nat) : (undoPlan o (goodK o k)).length = (goodK o k).length := by
  rw [(undo_perm hn ho k).length_eq, List.length_map]
theorem undo_count {o : List Nat} (hn : o.Nodup) (ho : OkOrd o) {k : Nat} {x : Nat × Nat} (h : x ∈ goodK o k) : (undoPlan o (goodK o k)).count (mir x) = 1 := by
  rw [(undoPlan_nodup hn (goodK_nodup hn ho k)).count, if_pos ((mem_undoPlan hn ho).2 (List.mem_map.2 ⟨x, h, rfl⟩))]
theorem goodK_length {o : List Nat} {k : Nat} (h : k ≤ 4 * o.length) : (goodK o k).length = k := by simp [goodK, downL, List.length_take]; omega
theorem goodK_snoc {o : List Nat} {k : Nat} (h : k < 4 * o.length) : goodK o (k + 1) = goodK o k ++ [opAt o k] := by
  unfold goodK
  have hl : k < (downL o).length := by simpa [downL] using h
  rw [List.take_succ_eq_append_getElem hl]
  congr 1
  simp [downL]
theorem ordR_nodup (raw : List Int) : (ordR raw).Nodup := (ordR_perm raw).nodup_iff.2 List.nodup_range
theorem ordR_okOrd (raw : List Int) : OkOrd (ordR raw) := by
  obtain ⟨h64, hg⟩ := okB_iff.1 (ordR_ok raw)
  have := okOrd_of_good h64 hg
  rwa [toInts_toNat] at this
end Go.Proofs.Ytdocdgghphhdpaa

