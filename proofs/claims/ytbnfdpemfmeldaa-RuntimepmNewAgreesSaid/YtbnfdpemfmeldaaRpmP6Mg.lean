/- Plain: the law RuntimepmClosure. No program is in sight here. -/
import Derived.Test.YtbnfdpemfmeldaaMgRuntimeNew4
import Derived.Test.YtbnfdpemfmeldaaGraM9Mg
namespace Go.Proofs.Ytbnfdpemfmeldaa
/-- A device without its delay. -/
def z0 (d : ID) : ID := { d with dl := 0 }
/-- The first k devices without their delays. -/
def zTo (l : List ID) (k : Nat) : List ID := (l.take k).map z0 ++ l.drop k
theorem zTo_zero (l : List ID) : zTo l 0 = l := by simp [zTo]
theorem zTo_all (l : List ID) : zTo l l.length = l.map z0 := by simp [zTo]
theorem zTo_length (l : List ID) (k : Nat) : (zTo l k).length = l.length := by
  unfold zTo
  rw [List.length_append, List.length_map, List.length_take, List.length_drop]
  omega
theorem zTo_get {l : List ID} {k : Nat} {d : ID} (h : l[k]? = some d) : (zTo l k)[k]? = some d := by
  have hk := (List.getElem?_eq_some_iff.1 h).1
  unfold zTo
  rw [List.getElem?_append_right (by rw [List.length_map, List.length_take]; omega), List.length_map, List.length_take, List.getElem?_drop, ← h]
  congr 1
  omega
theorem zTo_step {l : List ID} {k : Nat} {d : ID} (h : l[k]? = some d) : (zTo l k).set k (z0 d) = zTo l (k + 1) := by
  have hk := (List.getElem?_eq_some_iff.1 h).1
  unfold zTo
  rw [List.set_append_right _ _ (by rw [List.length_map, List.length_take]; omega), List.length_map, List.length_take, show k - min k l.length = 0 by omega, List.drop_eq_getElem_cons hk, List.set_cons_zero, take_succ_some h, List.map_append, List.append_assoc]
  rfl
theorem z0_links : ∀ (l : List ID) (i : Nat), idLinks i (l.map z0) = idLinks i l
  | [], _ => rfl
  | d :: l, i => by
    show linkOf i (z0 d) ++ idLinks (i + 1) (l.map z0) = linkOf i d ++ idLinks (i + 1) l
    rw [z0_links l (i + 1)]
    rfl
theorem z0_get {l : List ID} {i : Nat} {d : ID} (h : (l.map z0)[i]? = some d) : ∃ x, l[i]? = some x ∧ d = z0 x := by
  rw [List.getElem?_map] at h
  cases hx : l[i]? with
  | none => rw [hx] at h; cases h
  | some x => rw [hx] at h; injection h with h; exact ⟨x, rfl, h.symm⟩
theorem Dev8.z0_ {l : List ID} (h : Dev8 l) : Dev8 (l.map z0) := by
  have hl : (l.map z0).length = l.length := by simp
  refine ⟨by rw [hl]; exact h.len, fun i d hd => ?_, fun i d hd => ?_, fun i d hd => ?_, fun i d hd => ?_, fun i d hd => ?_, ?_⟩
  · obtain ⟨x, hx, rfl⟩ := z0_get hd
    rw [hl]
    exact h.par i x hx
  · obtain ⟨x, hx, rfl⟩ := z0_get hd
    exact Nat.zero_le _
  · obtain ⟨x, hx, rfl⟩ := z0_get hd
    exact h.nd i x hx
  · obtain ⟨x, hx, rfl⟩ := z0_get hd
    rw [hl]
    exact h.sup i x hx
  · obtain ⟨x, hx, rfl⟩ := z0_get hd
    exact h.sl i x hx
  · rcases h.rank with hr | hr
    · refine .inl fun i d hd => ?_
      obtain ⟨x, hx, rfl⟩ := z0_get hd
      exact hr i x hx
    · refine .inr fun i d hd => ?_
      obtain ⟨x, hx, rfl⟩ := z0_get hd
      exact hr i x hx
theorem z0_dl (l : List ID) (i : Nat) : (newRM (l.map z0)).dl i = 0 := by
  show (((l.map z0)[i]?).map ID.dl).getD 0 = 0
  rw [List.getElem?_map]
  cases l[i]? <;> rfl
theorem Dev8.basic {l : List ID} (h : Dev8 l) : basicM (l.length : Int) (idLinks 0 l) = 0 := by
  have h0 := h.new.1
  unfold newE at h0
  split at h0
  · unfold checkM at h0
    by_cases hb : basicM (l.length : Int) (idLinks 0 l) = 0
    · exact hb
    · unfold orderM at h0
      rw [if_neg hb] at h0
      exact absurd h0 hb
  · cases h0
/-- Those in use, in order. -/
def usedL (n : Nat) (use : Nat → Nat) : List Nat := (List.range n).filter fun k => decide (0 < use k)
theorem usedL_len (n : Nat) (use : Nat → Nat) : (usedL n use).length ≤ n := by
  unfold usedL
  have := List.length_filter_le (fun k => decide (0 < use k)) (List.range n)
  simpa using this
/-- The closure of those in use are the active devices. -/
theorem closure_on {l : List ID} (h : Dev8 l) {s : RS} {now k : Nat} (hs : St (newRM (l.map z0)) s now k) :
    closM false (l.length : Int) (idLinks 0 l) ((usedL l.length s.use).map Int.ofNat) = ((List.range l.length).filter s.act, 0) := by
  have hz := h.z0_.new.2.2.1
  have hL : (newRM (l.map z0)).L = toNs (idLinks 0 l) := by
    show toNs (idLinks 0 (l.map z0)) = _
    rw [z0_links]
  have hlt : ∀ p ∈ toNs (idLinks 0 l), p.1 < l.length ∧ p.2 < l.length := h.new.2.2.2
  rw [closM_ok h.basic (fun x hx => by
    obtain ⟨y, hy, rfl⟩ := List.mem_map.1 hx
    have := List.mem_range.1 (List.mem_filter.1 hy).1
    show (0 : Int) ≤ ((y : Nat) : Int) ∧ ((y : Nat) : Int) < _
    omega)]
  refine Prod.ext ?_ rfl
  show (List.range l.length).filter _ = _
  apply List.filter_congr
  intro i hi
  have hc := closure_law hz (z0_dl l) hs.good hs.sin i
  rw [hL] at hc
  have hid : ((usedL l.length s.use).map Int.ofNat).map Int.toNat = usedL l.length s.use := by
    rw [List.map_map]
    exact List.map_id' _
  rw [hid, show ori false (toNs (idLinks 0 l)) = toNs (idLinks 0 l) from rfl, Bool.eq_iff_iff, rchB_iff hlt, hc]
  have hdom : ∀ k, 0 < s.use k → k < l.length := fun k hk => by
    have h1 := hs.good.up.dom k (hs.good.up.use k hk)
    have h2 : (newRM (l.map z0)).n = l.length := by show (l.map z0).length = _; simp
    omega
  constructor
  · rintro ⟨u, hu, e⟩
    have := (List.mem_filter.1 hu).2
    exact ⟨u, by simpa using this, e.imp Eq.symm id⟩
  · rintro ⟨u, hu, e⟩
    exact ⟨u, List.mem_filter.2 ⟨List.mem_range.2 (hdom u hu), by simpa using hu⟩, e.imp Eq.symm id⟩
end Go.Proofs.Ytbnfdpemfmeldaa

