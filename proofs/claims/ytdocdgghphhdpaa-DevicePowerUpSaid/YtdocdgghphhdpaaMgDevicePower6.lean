/- Walks: device.Tree: exists, State, Count. -/
import Derived.Test.YtdocdgghphhdpaaTrMemMg
import Derived.Test.YtdocdgghphhdpaaMgDevicePower0
namespace Go.Proofs.Ytdocdgghphhdpaa
open Go.RowKit

section
variable {w : World} {T : TP} {ds : List DV} {C : TC} {s : TSt}
set_option maxHeartbeats 4000000 in
theorem texists_any (h : TrAt w T ds C s) (k : Int) :
    Calls Try.prog 60 #[.pointer (some ⟨T.b, 0, none⟩), .int .i64 k] w fun e w' => e = .returned (.bool (decide (0 ≤ k ∧ k < (C.nd : Int)))) ∧ w = w' := by
  obtain ⟨c0, -, -, -⟩ := h.cells
  obtain ⟨B, hB⟩ : ∃ B, B = decide (0 ≤ k ∧ k < (C.nd : Int)) := ⟨_, rfl⟩
  have HB := hide hB
  by_cases h0 : 0 ≤ k
  · have b0 : decide (0 ≤ k) = true := decide_eq_true h0
    by_cases h1 : k < (C.nd : Int)
    · have b1 : decide (k < (C.nd : Int)) = true := decide_eq_true h1
      have HB2 : Hid (B = true) := hide (by rw [hB]; simp [h0, h1])
      clear hB h
      go_enter Try.func60, Try.ntmps60
      go_wp2
      go_ret
      exact ⟨ret_bool (by first | rfl | rw [← HB.out, HB2.out]), rfl⟩
    · have b1 : decide (k < (C.nd : Int)) = false := decide_eq_false h1
      have HB2 : Hid (B = false) := hide (by rw [hB]; simp [h1])
      clear hB h
      go_enter Try.func60, Try.ntmps60
      go_wp2
      go_ret
      exact ⟨ret_bool (by first | rfl | rw [← HB.out, HB2.out]), rfl⟩
  · have b0 : decide (0 ≤ k) = false := decide_eq_false h0
    have HB2 : Hid (B = false) := hide (by rw [hB]; simp [h0])
    clear hB h
    go_enter Try.func60, Try.ntmps60
    go_wp2
    go_ret
    exact ⟨ret_bool (by first | rfl | rw [← HB.out, HB2.out]), rfl⟩
def stI (C : TC) (s : TSt) (k : Int) : Int := if 0 ≤ k ∧ k < (C.nd : Int) then (s.st k.toNat : Int) else -1
set_option maxHeartbeats 4000000 in
theorem tstate_any (h : TrAt w T ds C s) (k : Int) :
    Calls Try.prog 21 #[.pointer (some ⟨T.b, 0, none⟩), .int .i64 k] w fun e w' => e = .returned (.int .i64 (stI C s k)) ∧ w = w' := by
  have HAT := hide h
  by_cases hk : 0 ≤ k ∧ k < (C.nd : Int)
  · obtain ⟨q, rfl⟩ := Int.eq_ofNat_of_zero_le hk.1
    have hq : q < C.nd := by omega
    obtain ⟨-, c1, -, -⟩ := h.cells
    rw [(h.sS (by omega)).1] at c1
    have d0 := h.stAt hq
    have hqi : (q : Int) < (C.nd : Int) := by omega
    have HE : Hid (stI C s (q : Int) = (s.st q : Int)) := hide (by rw [stI, if_pos hk, Int.toNat_natCast])
    have HB := hide (decide_eq_true hk)
    clear h hk
    go_enter Try.func21, Try.ntmps21
    go_wp2_with fail
    refine (texists_any HAT.out (q : Int)).mono ?_
    rintro e w1 ⟨rfl, rfl⟩
    rw [HB.out]
    go_wp2
    go_ret
    exact ⟨by rw [HE.out]; rfl, rfl⟩
  · have HE : Hid (stI C s k = -1) := hide (by rw [stI, if_neg hk])
    have HB := hide (decide_eq_false hk)
    clear h hk
    go_enter Try.func21, Try.ntmps21
    go_wp2_with fail
    refine (texists_any HAT.out k).mono ?_
    rintro e w1 ⟨rfl, rfl⟩
    rw [HB.out]
    go_wp2
    go_ret
    exact ⟨by rw [HE.out]; rfl, rfl⟩
set_option maxHeartbeats 4000000 in
theorem tcount_any (h : TrAt w T ds C s) (k : Int) :
    Calls Try.prog 22 #[.pointer (some ⟨T.b, 0, none⟩), .int .i64 k] w fun e w' => e = .returned (.int .i64 (cntI T.pr s.r k : Int)) ∧ w = w' := by
  obtain ⟨-, -, c2, -⟩ := h.cells
  have HR := hide h.rl
  clear h
  go_enter Try.func22, Try.ntmps22
  go_wp2_with fail
  refine (rcount_any HR.out k).mono ?_
  rintro e w1 ⟨rfl, rfl⟩
  go_wp2
  go_ret
  exact ⟨rfl, rfl⟩
end
end Go.Proofs.Ytdocdgghphhdpaa

/- The plain model of dependency graphs: what checkLinks, sequence and the reference's functions compute. No program is in sight here. -/
namespace Go.Proofs.Ytdocdgghphhdpaa

def LinkOk (n : Int) (p : Int × Int) : Prop := 0 ≤ p.1 ∧ p.1 < n ∧ 0 ≤ p.2 ∧ p.2 < n
instance (n : Int) (p : Int × Int) : Decidable (LinkOk n p) := by unfold LinkOk; infer_instance
def LinksOk (n : Int) (l : List (Int × Int)) : Prop := 0 ≤ n ∧ n ≤ 128 ∧ l.length ≤ 1024 ∧ ∀ p ∈ l, LinkOk n p
instance (n : Int) (l : List (Int × Int)) : Decidable (LinksOk n l) := by unfold LinksOk; infer_instance
/-- checkLinks, and the reference's Basic. -/
def basicM (n : Int) (l : List (Int × Int)) : Int := if LinksOk n l then (if l.Nodup then 0 else 7) else 1
theorem basicM_not {n : Int} {l : List (Int × Int)} (h : ¬ LinksOk n l) : basicM n l = 1 := by simp [basicM, h]
theorem basicM_dup {n : Int} {l : List (Int × Int)} (h : LinksOk n l) (hd : ¬ l.Nodup) : basicM n l = 7 := by simp [basicM, h, hd]
theorem basicM_ok {n : Int} {l : List (Int × Int)} (h : LinksOk n l) (hd : l.Nodup) : basicM n l = 0 := by simp [basicM, h, hd]
theorem basicM_zero {n : Int} {l : List (Int × Int)} (h : basicM n l = 0) : LinksOk n l ∧ l.Nodup := by
  unfold basicM at h
  split at h
  · split at h
    · exact ⟨by assumption, by assumption⟩
    · cases h
  · cases h
theorem take_succ_some {α : Type} {l : List α} {k : Nat} {p : α} (h : l[k]? = some p) : l.take (k + 1) = l.take k ++ [p] := by rw [List.take_add_one, h]; rfl
theorem split_at_some {α : Type} {l : List α} {k : Nat} {p : α} (h : l[k]? = some p) : l = l.take k ++ p :: l.drop (k + 1) := by
  obtain ⟨hl, e⟩ := List.getElem?_eq_some_iff.1 h
  rw [← e, ← List.drop_eq_getElem_cons hl, List.take_append_drop]
/-- A link's ends as natural numbers. -/
def toN (p : Int × Int) : Nat × Nat := (p.1.toNat, p.2.toNat)
def toNs (l : List (Int × Int)) : List (Nat × Nat) := l.map toN
def ends (cons : Bool) (p : Nat × Nat) : Nat × Nat := if cons then (p.2, p.1) else p
/-- The suppliers of v or, if cons is true, its consumers, in the order of the links. -/
def nb (cons : Bool) (L : List (Nat × Nat)) (v : Nat) : List Nat := (L.filter fun p => (ends cons p).1 == v).map fun p => (ends cons p).2
def nbs (cons : Bool) (n : Nat) (L : List (Nat × Nat)) : List (List Nat) := (List.range n).map (nb cons L)
theorem nbs_length (cons : Bool) (n : Nat) (L : List (Nat × Nat)) : (nbs cons n L).length = n := by simp [nbs]
theorem nbs_get (cons : Bool) {n v : Nat} (L : List (Nat × Nat)) (h : v < n) : (nbs cons n L)[v]? = some (nb cons L v) := by simp [nbs, h]
theorem nb_snoc (cons : Bool) (L : List (Nat × Nat)) (p : Nat × Nat) (v : Nat) : nb cons (L ++ [p]) v = if (ends cons p).1 = v then nb cons L v ++ [(ends cons p).2] else nb cons L v := by
  by_cases h : (ends cons p).1 = v <;> simp [nb, h]
theorem nbs_snoc (cons : Bool) (n : Nat) (L : List (Nat × Nat)) (p : Nat × Nat) : nbs cons n (L ++ [p]) = (nbs cons n L).set (ends cons p).1 (nb cons L (ends cons p).1 ++ [(ends cons p).2]) := by
  apply List.ext_getElem?
  intro i
  rw [List.getElem?_set]
  by_cases hi : i < n
  · rw [nbs_get cons _ hi, nb_snoc]
    by_cases h : (ends cons p).1 = i
    · simp [h, nbs_length, hi]
    · simp [h, nbs_get cons _ hi]
  · rw [List.getElem?_eq_none (by rw [nbs_length]; omega)]
    split
    · rw [if_neg (by rw [nbs_length]; omega)]
    · rw [List.getElem?_eq_none (by rw [nbs_length]; omega)]
theorem nb_mem {cons : Bool} {L : List (Nat × Nat)} {v u : Nat} : u ∈ nb cons L v ↔ (if cons then (u, v) else (v, u)) ∈ L := by
  cases cons <;> simp [nb, ends]
theorem nb_length_le (cons : Bool) (L : List (Nat × Nat)) (v : Nat) : (nb cons L v).length ≤ L.length := by
  simp [nb]
  exact List.length_filter_le _ _
end Go.Proofs.Ytdocdgghphhdpaa

