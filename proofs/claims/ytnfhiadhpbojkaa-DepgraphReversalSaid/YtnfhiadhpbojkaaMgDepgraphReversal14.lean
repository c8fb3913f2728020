/- Plain laws of Reduce under exchange of consumer and supplier. No program is in sight here. -/
import Derived.Test.YtnfhiadhpbojkaaRedPMg
import Derived.Test.YtnfhiadhpbojkaaMgDepgraphReversal10
import Derived.Test.YtnfhiadhpbojkaaGraW7Mg
import Derived.Test.YtnfhiadhpbojkaaMgDepgraphReversal8
namespace Go.Proofs.Ytnfhiadhpbojkaa

theorem Req.tail_ {L : List (Nat × Nat)} {a b : Nat} (h : Req L a b) : (a, b) ∈ L ∨ ∃ t, Req L a t ∧ (t, b) ∈ L := by
  induction h with
  | one h => exact .inl h
  | step h _ ih =>
    rcases ih with h2 | ⟨t, h2, h3⟩
    · exact .inr ⟨_, .one h, h2⟩
    · exact .inr ⟨t, .step h h2, h3⟩
/-- A way of two links or more, from either end. -/
theorem two_ends {L : List (Nat × Nat)} {a b : Nat} : (∃ t, (a, t) ∈ L ∧ Req L t b) ↔ ∃ t, Req L a t ∧ (t, b) ∈ L := by
  constructor
  · rintro ⟨t, h1, h2⟩
    rcases h2.tail_ with h3 | ⟨u, h3, h4⟩
    · exact ⟨t, .one h1, h3⟩
    · exact ⟨u, .step h1 h3, h4⟩
  · rintro ⟨t, h1, h2⟩
    cases h1 with
    | one h => exact ⟨t, h, .one h2⟩
    | step h k => exact ⟨_, h, k.trans (.one h2)⟩
theorem req_swp_iff {L : List (Nat × Nat)} {a b : Nat} : Req (swp L) a b ↔ Req L b a := ⟨fun h => by have := req_swp h; rwa [swp_swp] at this, req_swp⟩
theorem swp_lt {N : Nat} {L : List (Nat × Nat)} (h : ∀ p ∈ L, p.1 < N ∧ p.2 < N) : ∀ p ∈ swp L, p.1 < N ∧ p.2 < N := fun p hp => by
  obtain ⟨a, b⟩ := p
  have := h _ (swp_mem.1 hp)
  exact ⟨this.2, this.1⟩
theorem swp_nodup {L : List (Nat × Nat)} (h : L.Nodup) : (swp L).Nodup := by
  unfold swp
  refine List.pairwise_map.2 (List.Pairwise.imp (fun {a b} hab e => hab ?_) h)
  injection e with e1 e2
  exact Prod.ext e2 e1
theorem swp_acyc {L : List (Nat × Nat)} : Acyc (swp L) ↔ Acyc L := ⟨fun h a ha => h a (req_swp_iff.2 ha), fun h a ha => h a (req_swp_iff.1 ha)⟩
theorem indB_swp {N : Nat} {L : List (Nat × Nat)} (hL : ∀ p ∈ L, p.1 < N ∧ p.2 < N) (c s : Nat) : indB N (swp L) c s = indB N L s c := by
  rw [Bool.eq_iff_iff, indB_iff (swp_lt hL), indB_iff hL, two_ends]
  constructor
  · rintro ⟨t, h1, h2⟩
    exact ⟨t, swp_mem.1 h2, req_swp_iff.1 h1⟩
  · rintro ⟨t, h1, h2⟩
    exact ⟨t, req_swp_iff.2 h2, swp_mem.2 h1⟩
def swL (l : List (Int × Int)) : List (Int × Int) := l.map fun p => (p.2, p.1)
theorem kept_swp {N : Nat} {L : List (Nat × Nat)} (hL : ∀ p ∈ L, p.1 < N ∧ p.2 < N) (hn : L.Nodup) : (keptTo N (swp L) N).Perm (swL (keptTo N L N)) := by
  have h2 : (swL (keptTo N L N)).Nodup := by
    unfold swL
    refine List.pairwise_map.2 (List.Pairwise.imp (fun {a b} hab e => hab ?_) (keptTo_nodup hn N))
    injection e with e1 e2
    exact Prod.ext e2 e1
  refine (List.perm_ext_iff_of_nodup (keptTo_nodup (swp_nodup hn) N) h2).2 (fun p => ?_)
  rw [mem_keptTo]
  unfold swL
  rw [List.mem_map]
  constructor
  · rintro ⟨c, s, -, rfl, h3, h4⟩
    have h5 := swp_mem.1 h3
    exact ⟨lnk s c, mem_keptTo.2 ⟨s, c, (hL _ h5).1, rfl, h5, by rw [← indB_swp hL]; exact h4⟩, rfl⟩
  · rintro ⟨q, hq, rfl⟩
    obtain ⟨c, s, -, rfl, h3, h4⟩ := mem_keptTo.1 hq
    exact ⟨s, c, (hL _ h3).2, rfl, swp_mem.2 h3, by rw [indB_swp hL]; exact h4⟩
theorem mem_sortL {l : List (Int × Int)} {p : Int × Int} : p ∈ sortL l ↔ p ∈ l := by
  unfold sortL
  exact List.mem_mergeSort
theorem checkM_of {N : Nat} {L : List (Nat × Nat)} (h : basicM (N : Int) (ofNs L) = 0) : checkM (N : Int) (ofNs L) = if (greedy N L).length = N then 0 else 18 := by
  unfold checkM orderM
  rw [if_pos h, Int.toNat_natCast, toNs_ofNs]
  split <;> rfl
structure RevOk (N : Nat) (L : List (Nat × Nat)) : Prop where
  chk : checkM (N : Int) (ofNs L) = checkM (N : Int) (ofNs (swp L))
  err : (redM (N : Int) (ofNs L)).2 = (redM (N : Int) (ofNs (swp L))).2
  len : (redM (N : Int) (ofNs L)).1.length = (redM (N : Int) (ofNs (swp L))).1.length
  mem : ∀ p ∈ (redM (N : Int) (ofNs L)).1, (p.2, p.1) ∈ (redM (N : Int) (ofNs (swp L))).1
theorem rev_ok {N : Nat} {L : List (Nat × Nat)} (hL : ∀ p ∈ L, p.1 < N ∧ p.2 < N) (hn : L.Nodup) (h1 : basicM (N : Int) (ofNs L) = 0) (h2 : basicM (N : Int) (ofNs (swp L)) = 0) : RevOk N L := by
  have hgr : (greedy N L).length = N ↔ (greedy N (swp L)).length = N := by rw [greedy_full hL, greedy_full (swp_lt hL), swp_acyc]
  have hchk : checkM (N : Int) (ofNs L) = checkM (N : Int) (ofNs (swp L)) := by
    rw [checkM_of h1, checkM_of h2]
    by_cases h : (greedy N L).length = N
    · rw [if_pos h, if_pos (hgr.1 h)]
    · rw [if_neg h, if_neg (fun k => h (hgr.2 k))]
  by_cases h : checkM (N : Int) (ofNs L) = 0
  · have e1 : redM (N : Int) (ofNs L) = (sortL (keptTo N L N), 0) := by unfold redM; rw [if_pos h, Int.toNat_natCast, toNs_ofNs]
    have e2 : redM (N : Int) (ofNs (swp L)) = (sortL (keptTo N (swp L) N), 0) := by unfold redM; rw [if_pos (hchk ▸ h), Int.toNat_natCast, toNs_ofNs]
    have hp := kept_swp hL hn
    refine ⟨hchk, by rw [e1, e2], ?_, fun p hp' => ?_⟩
    · rw [e1, e2]
      show (sortL _).length = (sortL _).length
      rw [sortL_length, sortL_length, hp.length_eq]
      unfold swL
      rw [List.length_map]
    · rw [e1] at hp'
      rw [e2]
      exact mem_sortL.2 (hp.mem_iff.2 (List.mem_map.2 ⟨p, mem_sortL.1 hp', rfl⟩))
  · have e1 : redM (N : Int) (ofNs L) = ([], checkM (N : Int) (ofNs L)) := by unfold redM; rw [if_neg h]
    have e2 : redM (N : Int) (ofNs (swp L)) = ([], checkM (N : Int) (ofNs (swp L))) := by unfold redM; rw [if_neg (hchk ▸ h)]
    exact ⟨hchk, by rw [e1, e2]; exact hchk, by rw [e1, e2], fun p hp => by rw [e1] at hp; cases hp⟩
theorem rev_clos {N : Nat} {L : List (Nat × Nat)} (h1 : basicM (N : Int) (ofNs L) = 0) (h2 : basicM (N : Int) (ofNs (swp L)) = 0) {of : List Int} (ho : ∀ x ∈ of, 0 ≤ x ∧ x < (N : Int)) : closM true (N : Int) (ofNs (swp L)) of = closM false (N : Int) (ofNs L) of ∧ (closM false (N : Int) (ofNs L) of).2 = 0 := by
  rw [closM_ok h1 ho, closM_ok h2 ho, toNs_ofNs, toNs_ofNs]
  have e : ori true (swp L) = L := swp_swp L
  rw [e]
  exact ⟨rfl, rfl⟩
end Go.Proofs.Ytnfhiadhpbojkaa

/- The law DepgraphReduceAgrees, walked. -/
namespace Go.Proofs.Ytnfhiadhpbojkaa
open Go.RowKit

theorem redM_len (n : Int) (l : List (Int × Int)) : (redM n l).1.length ≤ 20000 := by
  rw [← rredM_eq]
  unfold rredM
  by_cases h : checkM n l = 0
  · rw [if_pos h]
    obtain ⟨N, rfl, hN, -⟩ := checkM_zero h
    rw [Int.toNat_natCast]
    have h1 := refTo_len N (toNs l) N
    have h2 : N * N ≤ 128 * 128 := Nat.mul_le_mul hN hN
    show (refTo N (toNs l) N).length ≤ _
    omega
  · rw [if_neg h]
    exact Nat.zero_le _
set_option maxHeartbeats 2000000 in
set_option maxRecDepth 100000 in
theorem reduceAgrees_walk (n : Int) (A : Option Addr) (cp : Nat) (raw : List (Int × Int)) (ac : Bool) (w : World) (hr : Row w A (pcs raw)) (hm : raw.length ≤ maxLen) :
    Calls Try.prog 12 #[.int .i64 n, .slice A raw.length cp, .bool ac] w fun e w' => e = .returned (.bool true) ∧ Fr [] w w' := by
  unfold maxLen at hm
  have HR := hide hr
  clear hr
  by_cases h40 : 40 < raw.length
  · have hb : decide ((40 : Int) < (raw.length : Int)) = true := by simp; omega
    go_enter Try.func12, Try.ntmps12
    go_wp2_with fail
    refine (awake24_any w).mono ?_
    rintro e w1 ⟨rfl, hfr⟩
    go_wp2
    go_ret
    exact ⟨rfl, hfr⟩
  · have hb : decide ((40 : Int) < (raw.length : Int)) = false := by simp; omega
    have h40' : raw.length ≤ 40 := by omega
    clear h40 hm
    go_enter Try.func12, Try.ntmps12
    go_wp2_with fail
    refine (graph_any n A cp raw ac w HR.out (by omega)).mono ?_
    rintro e w1 ⟨v1, rfl, hown1, hf1⟩
    obtain ⟨A1, c1, rfl, -, hrow1, -⟩ := own_slice hown1
    have hgl := (graphM_ok n raw ac).len
    rw [← ofNs_length] at hgl
    rw [← ofNs_length]
    generalize ofNs (graphM n raw ac) = l at hgl hrow1 ⊢
    generalize (gNodes n : Int) = m
    have HG := hide hrow1
    clear hrow1 hown1
    go_wp2_with fail
    refine (reduce_any m A1 c1 l w1 HG.out (by omega)).mono ?_
    rintro e w2 ⟨v2, rfl, hown2, hf2⟩
    obtain ⟨A2, c2, rfl, -, hrow2, -⟩ := own_slice hown2
    have H2 := hide hrow2
    have hw2 := hf1.call hf2
    have HG2 := hide (HG.out.fr0 hf2)
    clear hrow2 hown2 HG
    go_wp2_with fail
    refine (rreduce_any m A1 c1 l w2 HG2.out (by omega)).mono ?_
    rintro e w3 ⟨v3, rfl, hown3, hf3⟩
    rw [rredM_eq] at hown3 ⊢
    obtain ⟨A3, c3, rfl, -, hrow3, -⟩ := own_slice hown3
    have H23 := hide (H2.out.fr0 hf3)
    have H3 := hide hrow3
    have hw3 := hw2.call hf3
    clear hrow3 hown3 HG2 H2
    go_wp2_with fail
    refine (reduce_any n A cp raw w3 (HR.out.fr0 hw3) (by omega)).mono ?_
    rintro e w4 ⟨v4, rfl, hown4, hf4⟩
    obtain ⟨A4, c4, rfl, -, hrow4, -⟩ := own_slice hown4
    have H24 := hide (H23.out.fr0 hf4)
    have H34 := hide (H3.out.fr0 hf4)
    have H4 := hide hrow4
    have hw4 := hw3.call hf4
    clear hrow4 hown4 H23 H3
    go_wp2_with fail
    refine (rreduce_any n A cp raw w4 (HR.out.fr0 hw4) (by omega)).mono ?_
    rintro e w5 ⟨v5, rfl, hown5, hf5⟩
    rw [rredM_eq] at hown5 ⊢
    obtain ⟨A5, c5, rfl, -, hrow5, -⟩ := own_slice hown5
    have H25 := hide (H24.out.fr0 hf5)
    have H35 := hide (H34.out.fr0 hf5)
    have H45 := hide (H4.out.fr0 hf5)
    have H5 := hide hrow5
    have hw5 := hw4.call hf5
    clear hrow5 hown5 H24 H34 H4
    have ho1 := redM_len m l
    have ho2 := redM_len n raw
    generalize redM m l = o1 at ho1 H25 H35 ⊢
    generalize redM n raw = o2 at ho2 H45 H5 ⊢
    have e1 : (o1.2 == o1.2) = true := by simp
    have e2 : (o2.2 == o2.2) = true := by simp
    go_wp2_with fail
    refine (equalLinks_any A2 A3 c2 c3 o1.1 o1.1 w5 H25.out H35.out (by omega)).mono ?_
    rintro e w6 ⟨rfl, hf6⟩
    rw [decide_eq_true rfl]
    go_wp2_with fail
    refine (equalLinks_any A4 A5 c4 c5 o2.1 o2.1 w6 (H45.out.fr0 hf6) (H5.out.fr0 hf6) (by omega)).mono ?_
    rintro e w7 ⟨rfl, hf7⟩
    rw [decide_eq_true rfl]
    go_wp2_with fail
    refine (awake24_any w7).mono ?_
    rintro e w8 ⟨rfl, hf8⟩
    go_wp2
    go_ret
    exact ⟨rfl, ((hw5.call hf6).call hf7).call hf8⟩
end Go.Proofs.Ytnfhiadhpbojkaa

