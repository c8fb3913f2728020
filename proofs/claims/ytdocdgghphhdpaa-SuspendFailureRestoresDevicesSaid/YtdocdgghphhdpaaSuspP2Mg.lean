/- Plain laws: the trace of a sequence without errors; which operations have succeeded. -/
import Derived.Test.YtdocdgghphhdpaaMgSuspFail22
import Derived.Test.YtdocdgghphhdpaaMgSuspFail23
namespace Go.Proofs.Ytdocdgghphhdpaa
open Go.RowKit

def rowAll (ord : List Nat) (ph : Nat) : List (Nat × Nat) := (List.range ord.length).map fun i => (ph, devAt ord ph i)
theorem rows_opAt (ord : List Nat) : ∀ k, (List.range (k * ord.length)).map (opAt ord) = (List.range k).flatMap fun p => rowAll ord (p + 1)
  | 0 => by simp
  | k + 1 => by
    rw [Nat.add_mul, Nat.one_mul, List.range_add, List.map_append, rows_opAt ord k, List.range_succ, List.flatMap_append]
    congr 1
    simp only [List.flatMap_cons, List.flatMap_nil, List.append_nil, rowAll, List.map_map]
    refine List.map_congr_left fun i hi => ?_
    exact opAt_of (List.mem_range.1 hi)
def fullUp (ord : List Nat) : List (Nat × Nat) := rowAll ord 5 ++ (rowAll ord 6 ++ (rowAll ord 7 ++ rowAll ord 8))
theorem downL_rows (ord : List Nat) : downL ord = rowAll ord 1 ++ (rowAll ord 2 ++ (rowAll ord 3 ++ rowAll ord 4)) := by
  unfold downL
  rw [rows_opAt]
  simp [show List.range 4 = [0, 1, 2, 3] from rfl]
theorem full_rows (ord : List Nat) : (List.range (8 * ord.length)).map (opAt ord) = downL ord ++ fullUp ord := by
  rw [rows_opAt, downL_rows]
  simp [show List.range 8 = [0, 1, 2, 3, 4, 5, 6, 7] from rfl, fullUp]

/-- The operations that have succeeded are those of L. -/
def ScIs (sc : Nat → Bool) (L : List (Nat × Nat)) : Prop := ∀ p d, p < 5 → d < 64 → (sc (p * 64 + d) = true ↔ (p, d) ∈ L)
theorem ScIs.snoc {sc : Nat → Bool} {L : List (Nat × Nat)} (h : ScIs sc L) {p d : Nat} (hd : d < 64) : ScIs (setF sc (p * 64 + d)) (L ++ [(p, d)]) := by
  intro p' d' hp' hd'
  have := h p' d' hp' hd'
  unfold setF
  by_cases e : p' * 64 + d' = p * 64 + d
  · have e1 : p' = p := by omega
    have e2 : d' = d := by omega
    subst e1
    subst e2
    simp
  · rw [if_neg e, this, List.mem_append]
    constructor
    · exact .inl
    · rintro (h1 | h1)
      · exact h1
      · simp at h1
        obtain ⟨rfl, rfl⟩ := h1
        exact absurd rfl e
theorem devAt_mirror {ord : List Nat} {ph i : Nat} (h5 : 5 ≤ ph) (h8 : ph ≤ 8) (hi : i < ord.length) : devAt ord (9 - ph) (ord.length - 1 - i) = devAt ord ph i := by
  have : ph = 5 ∨ ph = 6 ∨ ph = 7 ∨ ph = 8 := by omega
  rcases this with rfl | rfl | rfl | rfl
  all_goals simp [devAt, rev]
  all_goals first | rfl | (rw [show ord.length - 1 - (ord.length - 1 - i) = i by omega])
theorem mem_downL {ord : List Nat} {p i : Nat} (h1 : 1 ≤ p) (h4 : p ≤ 4) (hi : i < ord.length) : (p, devAt ord p i) ∈ downL ord := by
  unfold downL
  refine List.mem_map.2 ⟨(p - 1) * ord.length + i, List.mem_range.2 ?_, ?_⟩
  · have := mul_le3 h1 h4 hi; omega
  · rw [opAt_of hi, show p - 1 + 1 = p by omega]
theorem rowL_all {ord : List Nat} {sc : Nat → Bool} {ph : Nat} : ∀ (k po : Nat), (∀ i, po ≤ i → i < po + k → sc ((9 - ph) * 64 + devAt ord ph i) = true) → rowL ord sc ph k po = (List.range k).map fun i => (ph, devAt ord ph (po + i))
  | 0, _, _ => rfl
  | k + 1, po, h => by
    rw [rowL, if_pos (h po (Nat.le_refl _) (by omega)), rowL_all k (po + 1) (fun i h1 h2 => h i (by omega) (by omega)), List.range_succ_eq_map]
    simp only [List.map_cons, List.map_map, Nat.add_zero]
    congr 1
    refine List.map_congr_left fun i _ => ?_
    simp only [Function.comp_apply]
    rw [show po + 1 + i = po + (i + 1) by omega]
theorem upL_full {ord : List Nat} {sc : Nat → Bool} (ho : OkOrd ord) (h : ScIs sc (downL ord)) : upL ord sc 4 5 0 = fullUp ord := by
  have hr : ∀ ph, 5 ≤ ph → ph ≤ 8 → rowL ord sc ph (ord.length - 0) 0 = rowAll ord ph := fun ph h5 h8 => by
    rw [rowL_all]
    · simp [rowAll]
    · intro i _ hi
      have hi' : i < ord.length := by omega
      refine (h (9 - ph) (devAt ord ph i) (by omega) ?_).2 ?_
      · have := devAt_lt ho (ph := ph) hi'; have := ho.1; omega
      · rw [← devAt_mirror h5 h8 hi']
        exact mem_downL (by omega) (by omega) (by omega)
  simp only [upL, fullUp]
  rw [hr 5 (by omega) (by omega), hr 6 (by omega) (by omega), hr 7 (by omega) (by omega), hr 8 (by omega) (by omega)]
  simp

theorem Seq.next_of {S : Seq} (h : S.st = 1 ∨ S.st = 3) : S.next = ((S.ph, S.dev), true) := by unfold Seq.next; rw [if_pos h]
theorem Seq.rouse_of {S : Seq} (h : S.st ≠ 2) : S.rouse = S := by unfold Seq.rouse Seq.asleep; simp [h]
theorem Seq.plan_done {S : Seq} (h : S.st = 4) : S.next.2 = false := by unfold Seq.next; simp [h]

/-- Waking goes through its plan whatever the results are. -/
theorem trace_up (res : List Int) : ∀ (k : Nat) (S : Seq) (ops : List (Nat × Nat)), S.Ok → S.Hit → S.st = 3 ∨ S.st = 4 → S.mu < k → traceF res k S ops = ops ++ S.plan
  | 0, S, ops, _, _, _, hk => by omega
  | k + 1, S, ops, ok, hh, hs, hk => by
    have hr : S.rouse = S := Seq.rouse_of (by omega)
    rcases hs with h3 | h4
    · rw [traceF, hr, Seq.next_of (.inr h3)]
      simp only [if_true]
      have hc : (S.complete (res.getD ops.length 0)).1 = S.up (res.getD ops.length 0) := by simp [Seq.complete, h3]
      have hu := Seq.up_plan ok hh h3 (res.getD ops.length 0)
      have hok := Seq.up_ok ok h3 (res.getD ops.length 0)
      have hmu := Seq.up_mu ok h3 (res.getD ops.length 0)
      rw [hc, trace_up res k _ _ hok hu.2.1 ?_ (by omega), hu.1]
      · simp
      · have hst := hok.st
        have h31 : (S.up (res.getD ops.length 0)).st = 3 ∨ (S.up (res.getD ops.length 0)).st = 4 := by
          show (Seq.skip _).st = 3 ∨ (Seq.skip _).st = 4
          unfold Seq.skip
          simp only
          split
          · exact .inr rfl
          · exact .inl h3
        exact h31
    · rw [traceF, hr, Seq.plan_done h4]
      simp [Seq.plan, h4]
theorem Seq.undo_st (S : Seq) (r : Int) : (S.undo r).st = 3 ∨ (S.undo r).st = 4 := by
  show (Seq.skip _).st = 3 ∨ (Seq.skip _).st = 4
  unfold Seq.skip
  simp only
  split
  · exact .inr rfl
  · exact .inl rfl
theorem trace_asleep (res : List Int) (k : Nat) (S : Seq) (ops : List (Nat × Nat)) (ok : S.Ok) (h2 : S.st = 2) (hk : S.mu < k) : traceF res k S ops = ops ++ upL S.ord S.sc 4 5 0 := by
  have hr : S.rouse = S.undo 0 := by simp [Seq.rouse, Seq.asleep, h2, Seq.wake]
  have hu := Seq.undo_plan S 0
  have hmu := Seq.undo_mu S 0
  have hst := Seq.undo_st S 0
  have hrr : (S.undo 0).rouse = S.undo 0 := Seq.rouse_of (by omega)
  have he : traceF res k S ops = traceF res k (S.undo 0) ops := by
    cases k with
    | zero => omega
    | succ k => rw [traceF, traceF, hr, hrr]
  have hmu2 : S.mu = 4 * S.ord.length + 1 := by simp [Seq.mu, h2]
  rw [he, trace_up res k _ ops (Seq.undo_ok ok.ord 0) hu.2.1 hst (by omega), hu.1]

theorem take_snoc_getElem {L : List (Nat × Nat)} {i : Nat} {o : Nat × Nat} {T : List (Nat × Nat)} (h : L.drop i = o :: T) : L.take (i + 1) = L.take i ++ [o] := by
  have hi : i < L.length := by
    rcases Nat.lt_or_ge i L.length with h1 | h1
    · exact h1
    · rw [List.drop_eq_nil_of_le h1] at h; cases h
  rw [List.drop_eq_getElem_cons hi] at h
  injection h with h _
  rw [List.take_succ_eq_append_getElem hi, h]

/-- Going to sleep without an error, and waking. -/
theorem trace_down : ∀ (k : Nat) (S : Seq) (ops : List (Nat × Nat)), S.Ok → S.st = 1 → ScIs S.sc ((downL S.ord).take S.idx) → S.mu < k → traceF [] k S ops = ops ++ S.plan ++ fullUp S.ord
  | 0, S, ops, _, _, _, hk => by omega
  | k + 1, S, ops, ok, h1, hsc, hk => by
    have hr : S.rouse = S := Seq.rouse_of (by omega)
    rw [traceF, hr, Seq.next_of (.inl h1)]
    simp only [if_true]
    have hc : (S.complete (([] : List Int).getD ops.length 0)).1 = S.down := by simp [Seq.complete, h1]
    obtain ⟨hd1, hd2, _, hd3, hd4, hd5, hd6⟩ := Seq.down_plan ok h1
    have hok := Seq.down_ok ok h1
    have hmu := Seq.down_mu ok h1
    obtain ⟨g1, g4, gp⟩ := ok.down h1
    have hdev : S.dev < 64 := by have := devAt_lt ok.ord (ph := S.ph) gp; have := ok.ord.1; unfold Seq.dev; omega
    have hp1 := Seq.plan1 ok h1
    have hdrop : (downL S.ord).drop S.idx = (S.ph, S.dev) :: (downL S.ord).drop (S.idx + 1) := by
      have := hp1.1
      simp only [Seq.plan, h1, if_true] at this
      exact this
    have hsc' : ScIs S.down.sc ((downL S.ord).take (S.idx + 1)) := by
      rw [hd3, take_snoc_getElem hdrop]
      exact hsc.snoc hdev
    rw [hc]
    rcases hd4 with ⟨hs, _⟩ | ⟨hs, hpl⟩
    · rw [trace_down k _ _ hok hs (by rw [hd2, hd5 hs]; exact hsc') (by omega), hd1, hd2]
      simp
    · have he := hd6 hs
      rw [List.take_of_length_le (by simp [downL]; omega)] at hsc'
      rw [trace_asleep [] k _ _ hok hs (by omega), hd1, hpl, hd2, upL_full ok.ord hsc']

/-- The order that law30 makes is a permutation. -/
theorem ordM_perm (raw : List Int) : ∀ i, (ordM raw i).Perm (List.range i)
  | 0 => List.Perm.refl _
  | i + 1 => by
    rw [ordM, List.range_succ]
    have h := List.perm_middle (a := i) (l₁ := (ordM raw i).take (umod (raw.getD i 0) (i + 1))) (l₂ := (ordM raw i).drop (umod (raw.getD i 0) (i + 1)))
    rw [List.take_append_drop] at h
    refine h.trans ?_
    refine ((ordM_perm raw i).cons i).trans ?_
    exact (List.perm_append_singleton i (List.range i)).symm
theorem good_of_perm {o : List Nat} (h : o.Perm (List.range o.length)) : Good (o.map fun (d : Nat) => (d : Int)) := by
  intro i d hi hd
  rw [List.getElem?_map] at hd
  obtain ⟨x, hx, rfl⟩ := Option.map_eq_some_iff.1 hd
  have hmem : x ∈ o := List.mem_of_getElem? hx
  have hlt : x < o.length := by simpa using (h.mem_iff (a := x)).1 hmem
  have hnd : o.Nodup := h.nodup_iff.2 List.nodup_range
  rw [List.length_map]
  refine ⟨by omega, by omega, ?_⟩
  rw [← List.map_take]
  intro hm
  obtain ⟨y, hy, hxy⟩ := List.mem_map.1 hm
  have hyx : y = x := by omega
  subst hyx
  obtain ⟨j, hj⟩ := List.mem_iff_getElem?.1 hy
  rw [List.getElem?_take] at hj
  split at hj
  · rename_i hji
    have h1 := (List.getElem?_eq_some_iff.1 hj)
    have h2 := (List.getElem?_eq_some_iff.1 hx)
    have := (List.getElem_inj hnd).1 (h1.2.trans h2.2.symm)
    omega
  · cases hj
def toInts (o : List Nat) : List Int := o.map fun (d : Nat) => (d : Int)
theorem toInts_toNat (o : List Nat) : (toInts o).map Int.toNat = o := by simp [toInts, Function.comp_def]
theorem toInts_nv (o : List Nat) : (toInts o).map (Value.int .i64) = o.map nv := by simp [toInts, Function.comp_def, nv]
theorem ordR_length (raw : List Int) : (ordR raw).length = min raw.length 7 := ordM_length _ _
theorem ordR_perm (raw : List Int) : (ordR raw).Perm (List.range (ordR raw).length) := by rw [ordR_length]; exact ordM_perm _ _
theorem ordR_ok (raw : List Int) : okB (toInts (ordR raw)) = true := okB_iff.2 ⟨by rw [toInts, List.length_map, ordR_length]; omega, good_of_perm (ordR_perm raw)⟩
theorem scIs_nil : ScIs (fun _ => false) [] := by intro p d _ _; simp
theorem trace_clean {o : List Nat} (h : okB (toInts o) = true) : traceM (toInts o) [] = (List.range (8 * o.length)).map (opAt o) := by
  obtain ⟨h64, hg⟩ := okB_iff.1 h
  have hoo := okOrd_of_good h64 hg
  rw [toInts_toNat] at hoo
  unfold traceM
  rw [if_pos h, toInts_toNat, full_rows]
  have hl : (toInts o).length = o.length := by simp [toInts]
  rw [hl]
  have hok := seq0_ok hoo
  have hmu := seq0_mu o
  by_cases hz : o.length = 0
  · have ho : o = [] := List.eq_nil_of_length_eq_zero hz
    subst ho
    rfl
  · have hst : (seq0 o).st = 1 := by simp [seq0, hz]
    rw [trace_down _ _ _ hok hst (by simpa [seq0, Seq.idx] using scIs_nil) hmu]
    simp [Seq.plan, hst]
    simp [seq0, Seq.idx]
theorem map_nv_get {o : List Nat} {k : Nat} (h : k < o.length) : (o.map nv)[k]? = some (.int .i64 ((o.getD k 0 : Nat) : Int)) := by simp [h, List.getD_eq_getElem?_getD]
end Go.Proofs.Ytdocdgghphhdpaa

