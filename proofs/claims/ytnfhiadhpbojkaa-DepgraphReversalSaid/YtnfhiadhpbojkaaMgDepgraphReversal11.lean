/- The law DepgraphClosureDuality, walked. -/
import Derived.Test.YtnfhiadhpbojkaaGraL7Mg
import Derived.Test.YtnfhiadhpbojkaaRedPMg
namespace Go.Proofs.Ytnfhiadhpbojkaa
open Go.RowKit

def CtRel (w : World) (l : List Int) (v : Int) (m : Nat) (i : Value) (wr : World) : Prop := ∃ k : Nat, k ≤ l.length ∧ i = .int .i64 k ∧ v ∉ l.take k ∧ w = wr ∧ m = l.length - k
set_option maxHeartbeats 1000000 in
theorem contains24_any (A : Option Addr) (cp : Nat) (l : List Int) (v : Int) (w : World) (hr : Row w A (l.map (Value.int .i64))) (hn : l.length ≤ 4096) :
    Calls Try.prog 32 #[.slice A l.length cp, .int .i64 v] w fun e w' => e = .returned (.bool (decide (v ∈ l))) ∧ w = w' := by
  have HR := hide hr
  clear hr
  go_enter Try.func32, Try.ntmps32
  go_wp2
  go_loopg [5] l.length (fun m i wr => CtRel w l v m i wr)
  case atStart => exact ⟨0, by omega, rfl, by simp, rfl, rfl⟩
  case round =>
    obtain ⟨k, hk, rfl, hnp, rfl, hmm⟩ := hrel
    have HM := hide hmm
    have HNP := hide hnp
    clear hmm hnp
    by_cases hlt : k < l.length
    · obtain ⟨y, hy⟩ : ∃ y, l[k]? = some y := ⟨_, List.getElem?_eq_getElem hlt⟩
      obtain ⟨ob, oo, rfl, c1⟩ := HR.out.int hy
      have hkl : (k : Int) < (l.length : Int) := by omega
      have HY := hide hy
      clear hy
      by_cases e : y = v
      · subst e
        have eb : (y == y) = true := by simp
        go_wp2
        go_ret
        exact ⟨ret_bool (decide_eq_true (List.mem_of_getElem? HY.out)).symm, rfl⟩
      · have eb : (y == v) = false := by simp [e]
        go_wp2
        go_roundg (l.length - (k + 1))
        case measure => rw [HM.out]; omega
        case rel =>
          refine ⟨k + 1, by omega, by go_num, ?_, rfl, rfl⟩
          rw [take_succ_some HY.out]
          intro h
          rcases List.mem_append.1 h with h | h
          · exact HNP.out h
          · exact e (List.mem_singleton.1 h).symm
    · have hkl : ¬ (k : Int) < (l.length : Int) := by omega
      go_wp2
      go_ret
      refine ⟨ret_bool (decide_eq_false ?_).symm, rfl⟩
      have := HNP.out
      rwa [List.take_of_length_le (by omega)] at this

theorem req_swp {L : List (Nat × Nat)} {a b : Nat} (h : Req L a b) : Req (swp L) b a := by
  induction h with
  | one h => exact .one (swp_mem.2 h)
  | step h _ ih => exact ih.trans (.one (swp_mem.2 h))
theorem swp_swp (L : List (Nat × Nat)) : swp (swp L) = L := by
  unfold swp
  rw [List.map_map]
  have : ((fun p : Nat × Nat => (p.2, p.1)) ∘ fun p : Nat × Nat => (p.2, p.1)) = id := by funext p; rfl
  rw [this, List.map_id]
theorem rch_dual {L : List (Nat × Nat)} {a b : Nat} : Rch L [a] b ↔ Rch (swp L) [b] a := by
  unfold Rch
  simp only [List.mem_singleton, exists_eq_left]
  constructor
  · rintro (h | h)
    · exact .inl h.symm
    · exact .inr (req_swp h)
  · rintro (h | h)
    · exact .inl h.symm
    · right
      have := req_swp h
      rwa [swp_swp] at this
/-- The closure of a closure is that closure. -/
theorem rch_idem {K : List (Nat × Nat)} {of up : List Nat} (h : ∀ v, v ∈ up ↔ Rch K of v) {v : Nat} : Rch K up v ↔ Rch K of v := by
  constructor
  · exact fun hr => hr.sub (R := fun u => Rch K of u) (fun u hu => (h u).1 hu) (fun a b ha hb => ha.step hb)
  · exact fun hr => ⟨v, (h v).2 hr, .inl rfl⟩
/-- The three closures of the law. -/
structure Dual (N : Nat) (l : List (Int × Int)) (a b : Nat) (up down : List Nat) : Prop where
  hup : closM false (N : Int) l [(a : Int)] = (up, 0)
  hdown : closM true (N : Int) l [(b : Int)] = (down, 0)
  again : closM false (N : Int) l (toI up) = (up, 0)
  len : up.length ≤ 128 ∧ down.length ≤ 128
  dual : b ∈ up ↔ a ∈ down
  self : a ∈ up
theorem dual_ok {N : Nat} {l : List (Int × Int)} (hb : basicM (N : Int) l = 0) {a b : Nat} (ha : a < N) (hbN : b < N) : ∃ up down, Dual N l a b up down := by
  obtain ⟨hok, _⟩ := basicM_zero hb
  have hlt := toNs_lt hok.2.2.2
  have hN : N ≤ 128 := by have := hok.2.1; omega
  have hup := closM_ok (cons := false) (of := [(a : Int)]) hb (by simp; omega)
  have hdn := closM_ok (cons := true) (of := [(b : Int)]) hb (by simp; omega)
  simp only [List.map_cons, List.map_nil, Int.toNat_natCast] at hup hdn
  have l1 := closM_len false (N : Int) l [(a : Int)]
  have l2 := closM_len true (N : Int) l [(b : Int)]
  rw [hup] at l1
  rw [hdn] at l2
  have hK0 : ori false (toNs l) = toNs l := rfl
  have hK1 : ori true (toNs l) = swp (toNs l) := rfl
  have hm1 : ∀ v, v ∈ (List.range N).filter (rchB N (ori false (toNs l)) [a]) ↔ Rch (toNs l) [a] v := fun v => by
    rw [List.mem_filter, List.mem_range, rchB_iff (ori_lt hlt), hK0]
    refine ⟨fun h => h.2, fun h => ⟨?_, h⟩⟩
    obtain ⟨u, hu, e | h⟩ := h
    · rw [← e, List.mem_singleton.1 hu]; exact ha
    · have : ∀ x y, Req (toNs l) x y → y < N := fun x y hxy => by
        induction hxy with
        | one h => exact (hlt _ h).2
        | step _ _ ih => exact ih
      exact this u v h
  refine ⟨_, _, hup, hdn, ?_, ⟨l1, l2⟩, ?_, ?_⟩
  · generalize hU : (List.range N).filter (rchB N (ori false (toNs l)) [a]) = U at hm1
    have hUn : ∀ u ∈ U, u < N := fun u hu => by
      rw [← hU, List.mem_filter, List.mem_range] at hu
      exact hu.1
    rw [closM_ok hb (fun x hx => by
      obtain ⟨u, hu, rfl⟩ := List.mem_map.1 hx
      have := hUn u hu
      omega)]
    have hmap : (toI U).map Int.toNat = U := by
      unfold toI
      rw [List.map_map]
      have : Int.toNat ∘ (fun n : Nat => (n : Int)) = id := by funext n; simp
      rw [this, List.map_id]
    rw [hmap]
    refine Prod.ext ?_ rfl
    refine Eq.trans (List.filter_congr (fun v hv => ?_)) hU
    have hv' := List.mem_range.1 hv
    rw [Bool.eq_iff_iff, rchB_iff (ori_lt hlt), rchB_iff (ori_lt hlt), hK0]
    exact rch_idem hm1
  · rw [hm1, List.mem_filter, List.mem_range, rchB_iff (ori_lt hlt), hK1, rch_dual]
    exact ⟨fun h => ⟨ha, h⟩, fun h => h.2⟩
  · rw [hm1]
    exact ⟨a, by simp, .inl rfl⟩
end Go.Proofs.Ytnfhiadhpbojkaa

/- Plain laws of Reduce under exchange of consumer and supplier. No program is in sight here. -/
namespace Go.Proofs.Ytnfhiadhpbojkaa

theorem Req.tail_ {L : List (Nat × Nat)} {a b : Nat} (h : Req L a b) : (a, b) ∈ L ∨ ∃ t, Req L a t ∧ (t, b) ∈ L := by
  induction h with
  | one h => exact .inl h
  | step h _ ih =>
    rcases ih with h2 | ⟨t, h2, h3⟩
    · exact .inr ⟨_, .one h, h2⟩
    · exact .inr ⟨t, .step h h2, h3⟩
/-- A way of two links or more, from either end. -/
theorem two_ends {L : List (Nat × Nat)} {a b : Nat} : (∃ t, (a, t) ∈ L ∧ Req L t b) ↔ ∃ t, Req L a t ∧ (t, b) ∈ L := by
  constructor
  · rintro ⟨t, h1, h2⟩
    rcases h2.tail_ with h3 | ⟨u, h3, h4⟩
    · exact ⟨t, .one h1, h3⟩
    · exact ⟨u, .step h1 h3, h4⟩
  · rintro ⟨t, h1, h2⟩
    cases h1 with
    | one h => exact ⟨t, h, .one h2⟩
    | step h k => exact ⟨_, h, k.trans (.one h2)⟩
theorem req_swp_iff {L : List (Nat × Nat)} {a b : Nat} : Req (swp L) a b ↔ Req L b a := ⟨fun h => by have := req_swp h; rwa [swp_swp] at this, req_swp⟩
theorem swp_lt {N : Nat} {L : List (Nat × Nat)} (h : ∀ p ∈ L, p.1 < N ∧ p.2 < N) : ∀ p ∈ swp L, p.1 < N ∧ p.2 < N := fun p hp => by
  obtain ⟨a, b⟩ := p
  have := h _ (swp_mem.1 hp)
  exact ⟨this.2, this.1⟩
theorem swp_nodup {L : List (Nat × Nat)} (h : L.Nodup) : (swp L).Nodup := by
  unfold swp
  refine List.pairwise_map.2 (List.Pairwise.imp (fun {a b} hab e => hab ?_) h)
  injection e with e1 e2
  exact Prod.ext e2 e1
theorem swp_acyc {L : List (Nat × Nat)} : Acyc (swp L) ↔ Acyc L := ⟨fun h a ha => h a (req_swp_iff.2 ha), fun h a ha => h a (req_swp_iff.1 ha)⟩
theorem indB_swp {N : Nat} {L : List (Nat × Nat)} (hL : ∀ p ∈ L, p.1 < N ∧ p.2 < N) (c s : Nat) : indB N (swp L) c s = indB N L s c := by
  rw [Bool.eq_iff_iff, indB_iff (swp_lt hL), indB_iff hL, two_ends]
  constructor
  · rintro ⟨t, h1, h2⟩
    exact ⟨t, swp_mem.1 h2, req_swp_iff.1 h1⟩
  · rintro ⟨t, h1, h2⟩
    exact ⟨t, req_swp_iff.2 h2, swp_mem.2 h1⟩
def swL (l : List (Int × Int)) : List (Int × Int) := l.map fun p => (p.2, p.1)
theorem kept_swp {N : Nat} {L : List (Nat × Nat)} (hL : ∀ p ∈ L, p.1 < N ∧ p.2 < N) (hn : L.Nodup) : (keptTo N (swp L) N).Perm (swL (keptTo N L N)) := by
  have h2 : (swL (keptTo N L N)).Nodup := by
    unfold swL
    refine List.pairwise_map.2 (List.Pairwise.imp (fun {a b} hab e => hab ?_) (keptTo_nodup hn N))
    injection e with e1 e2
    exact Prod.ext e2 e1
  refine (List.perm_ext_iff_of_nodup (keptTo_nodup (swp_nodup hn) N) h2).2 (fun p => ?_)
  rw [mem_keptTo]
  unfold swL
  rw [List.mem_map]
  constructor
  · rintro ⟨c, s, -, rfl, h3, h4⟩
    have h5 := swp_mem.1 h3
    exact ⟨lnk s c, mem_keptTo.2 ⟨s, c, (hL _ h5).1, rfl, h5, by rw [← indB_swp hL]; exact h4⟩, rfl⟩
  · rintro ⟨q, hq, rfl⟩
    obtain ⟨c, s, -, rfl, h3, h4⟩ := mem_keptTo.1 hq
    exact ⟨s, c, (hL _ h3).2, rfl, swp_mem.2 h3, by rw [indB_swp hL]; exact h4⟩
theorem mem_sortL {l : List (Int × Int)} {p : Int × Int} : p ∈ sortL l ↔ p ∈ l := by
  unfold sortL
  exact List.mem_mergeSort
theorem checkM_of {N : Nat} {L : List (Nat × Nat)} (h : basicM (N : Int) (ofNs L) = 0) : checkM (N : Int) (ofNs L) = if (greedy N L).length = N then 0 else 18 := by
  unfold checkM orderM
  rw [if_pos h, Int.toNat_natCast, toNs_ofNs]
  split <;> rfl
structure RevOk (N : Nat) (L : List (Nat × Nat)) : Prop where
  chk : checkM (N : Int) (ofNs L) = checkM (N : Int) (ofNs (swp L))
  err : (redM (N : Int) (ofNs L)).2 = (redM (N : Int) (ofNs (swp L))).2
  len : (redM (N : Int) (ofNs L)).1.length = (redM (N : Int) (ofNs (swp L))).1.length
  mem : ∀ p ∈ (redM (N : Int) (ofNs L)).1, (p.2, p.1) ∈ (redM (N : Int) (ofNs (swp L))).1
theorem rev_ok {N : Nat} {L : List (Nat × Nat)} (hL : ∀ p ∈ L, p.1 < N ∧ p.2 < N) (hn : L.Nodup) (h1 : basicM (N : Int) (ofNs L) = 0) (h2 : basicM (N : Int) (ofNs (swp L)) = 0) : RevOk N L := by
  have hgr : (greedy N L).length = N ↔ (greedy N (swp L)).length = N := by rw [greedy_full hL, greedy_full (swp_lt hL), swp_acyc]
  have hchk : checkM (N : Int) (ofNs L) = checkM (N : Int) (ofNs (swp L)) := by
    rw [checkM_of h1, checkM_of h2]
    by_cases h : (greedy N L).length = N
    · rw [if_pos h, if_pos (hgr.1 h)]
    · rw [if_neg h, if_neg (fun k => h (hgr.2 k))]
  by_cases h : checkM (N : Int) (ofNs L) = 0
  · have e1 : redM (N : Int) (ofNs L) = (sortL (keptTo N L N), 0) := by unfold redM; rw [if_pos h, Int.toNat_natCast, toNs_ofNs]
    have e2 : redM (N : Int) (ofNs (swp L)) = (sortL (keptTo N (swp L) N), 0) := by unfold redM; rw [if_pos (hchk ▸ h), Int.toNat_natCast, toNs_ofNs]
    have hp := kept_swp hL hn
    refine ⟨hchk, by rw [e1, e2], ?_, fun p hp' => ?_⟩
    · rw [e1, e2]
      show (sortL _).length = (sortL _).length
      rw [sortL_length, sortL_length, hp.length_eq]
      unfold swL
      rw [List.length_map]
    · rw [e1] at hp'
      rw [e2]
      exact mem_sortL.2 (hp.mem_iff.2 (List.mem_map.2 ⟨p, mem_sortL.1 hp', rfl⟩))
  · have e1 : redM (N : Int) (ofNs L) = ([], checkM (N : Int) (ofNs L)) := by unfold redM; rw [if_neg h]
    have e2 : redM (N : Int) (ofNs (swp L)) = ([], checkM (N : Int) (ofNs (swp L))) := by unfold redM; rw [if_neg (hchk ▸ h)]
    exact ⟨hchk, by rw [e1, e2]; exact hchk, by rw [e1, e2], fun p hp => by rw [e1] at hp; cases hp⟩
theorem rev_clos {N : Nat} {L : List (Nat × Nat)} (h1 : basicM (N : Int) (ofNs L) = 0) (h2 : basicM (N : Int) (ofNs (swp L)) = 0) {of : List Int} (ho : ∀ x ∈ of, 0 ≤ x ∧ x < (N : Int)) : closM true (N : Int) (ofNs (swp L)) of = closM false (N : Int) (ofNs L) of ∧ (closM false (N : Int) (ofNs L) of).2 = 0 := by
  rw [closM_ok h1 ho, closM_ok h2 ho, toNs_ofNs, toNs_ofNs]
  have e : ori true (swp L) = L := swp_swp L
  rw [e]
  exact ⟨rfl, rfl⟩
end Go.Proofs.Ytnfhiadhpbojkaa

