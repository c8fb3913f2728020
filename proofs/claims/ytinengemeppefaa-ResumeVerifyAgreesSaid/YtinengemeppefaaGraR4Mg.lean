/- Walks over the reference of layer 24: Check, Order. -/
import Derived.Test.YtinengemeppefaaGraR3Mg
import Derived.Test.YtinengemeppefaaGraR2Mg
import Derived.Test.YtinengemeppefaaMgResumeVerify4
namespace Go.Proofs.Ytinengemeppefaa
open Go.RowKit

theorem diag_iff {n : Nat} {L : List (Nat × Nat)} (hL : ∀ p ∈ L, p.1 < n ∧ p.2 < n) : (greedy n L).length = n ↔ ∀ i, i < n → wmat L n i i = false := by
  rw [greedy_full hL]
  constructor
  · intro h i _
    cases hx : wmat L n i i with
    | false => rfl
    | true => exact absurd ((wmat_iff hL).1 hx) (h i)
  · intro h a ha
    have hlt : a < n := by
      cases ha with
      | one h => exact (hL _ h).1
      | step h _ => exact (hL _ h).1
    have := (wmat_iff hL).2 ha
    rw [h a hlt] at this
    cases this
theorem orderM_cyc {N : Nat} {l : List (Int × Int)} (hb : basicM (N : Int) l = 0) (h : ¬ (greedy N (toNs l)).length = N) : orderM (N : Int) l = ([], 18) := by
  unfold orderM
  rw [hb, if_pos rfl, Int.toNat_natCast, if_neg h]
theorem orderM_bad {n : Int} {l : List (Int × Int)} (hb : ¬ basicM n l = 0) : orderM n l = ([], basicM n l) := by
  unfold orderM
  rw [if_neg hb]

def DiagRel (w1 : World) (n : Nat) (L : List (Nat × Nat)) (m : Nat) (i : Value) (wr : World) : Prop := ∃ k : Nat, k ≤ n ∧ i = .int .i64 k ∧ (∀ j, j < k → wmat L n j j = false) ∧ w1 = wr ∧ m = n - k

set_option maxHeartbeats 1000000 in
theorem rcheck_any24 (n : Int) (A : Option Addr) (cp : Nat) (l : List (Int × Int)) (w : World) (hr : Row w A (pcs l)) (hm : l.length ≤ 4096) :
    Calls Try.prog 44 #[.int .i64 n, .slice A l.length cp] w fun e w' => e = .returned (.int .i64 (checkM n l)) ∧ Fr [] w w' := by
  have HR := hide hr
  clear hr
  go_enter Try.func44, Try.ntmps44
  go_wp2_with fail
  refine (rbasic_any n A cp l w HR.out hm).mono ?_
  rintro e w1 ⟨rfl, hf1⟩
  by_cases hb : basicM n l = 0
  · obtain ⟨hok, hnd⟩ := basicM_zero hb
    obtain ⟨N, rfl⟩ := Int.eq_ofNat_of_zero_le hok.1
    rw [hb]
    have HB := hide hb
    have HOK := hide hok
    have hN : N ≤ 128 := by have := hok.2.1; omega
    clear hb hok hnd
    go_wp2_with fail
    refine (rmatrix_any N A cp l w1 (HR.out.fr0 hf1) HOK.out).mono ?_
    rintro e w2 ⟨g, rfl, hmat, hf2⟩
    have HMAT := hide hmat
    have HLT := hide (toNs_lt HOK.out.2.2.2)
    clear hmat
    go_wp2
    go_loopg [7] N (fun m i wr => DiagRel w2 N (toNs l) m i wr)
    case atStart => exact ⟨0, by omega, rfl, fun j hj => by omega, rfl, rfl⟩
    case round =>
      obtain ⟨k, hk, rfl, hdg, rfl, hmm⟩ := hrel
      have HM := hide hmm
      have HDG := hide hdg
      clear hmm hdg
      by_cases hlt : k < N
      · have hkl : (k : Int) < (N : Int) := by omega
        obtain ⟨b, h1, h2, -, -, -, -, -⟩ := HMAT.out.at_ hlt
        have h7 := h2 k hlt
        clear h2
        cases hx : wmat (toNs l) N k k with
        | false =>
          rw [hx] at h7
          have HX := hide hx
          clear hx
          go_wp2
          go_roundg (N - (k + 1))
          case measure => rw [HM.out]; omega
          case rel =>
            refine ⟨k + 1, by omega, by go_num, fun j hj => ?_, rfl, rfl⟩
            by_cases e : j = k
            · rw [e]; exact HX.out
            · exact HDG.out j (by omega)
        | true =>
          rw [hx] at h7
          have HX := hide hx
          clear hx
          go_wp2
          go_ret
          refine ⟨ret_int ?_, hf1.call hf2⟩
          unfold checkM
          rw [orderM_cyc HB.out]
          intro h
          have := (diag_iff HLT.out).1 h k hlt
          rw [HX.out] at this
          cases this
      · have hkl : ¬ (k : Int) < (N : Int) := by omega
        go_wp2
        go_ret
        refine ⟨ret_int ?_, hf1.call hf2⟩
        unfold checkM
        rw [orderM_ok HB.out]
        exact (diag_iff HLT.out).2 (fun i hi => HDG.out i (by omega))
  · have hne : (basicM n l != 0) = true := by simp [hb]
    have hm1 : checkM n l = basicM n l := by
      unfold checkM
      rw [orderM_bad hb]
    have HM1 := hide hm1
    clear hm1 hb
    go_wp2
    go_ret
    exact ⟨ret_int HM1.out.symm, hf1⟩

set_option maxHeartbeats 1000000 in
theorem rorder_any24 (n : Int) (A : Option Addr) (cp : Nat) (l : List (Int × Int)) (w : World) (hr : Row w A (pcs l)) (hm : l.length ≤ 4096) :
    Calls Try.prog 37 #[.int .i64 n, .slice A l.length cp] w (OrderRet w n l) := by
  have HR := hide hr
  clear hr
  go_enter Try.func37, Try.ntmps37
  go_wp2_with fail
  refine (rcheck_any24 n A cp l w HR.out hm).mono ?_
  rintro e w1 ⟨rfl, hf1⟩
  by_cases hc : checkM n l = 0
  · have hb : basicM n l = 0 := by
      apply Classical.byContradiction
      intro h
      unfold checkM at hc
      rw [orderM_bad h] at hc
      exact h hc
    obtain ⟨hok, hnd⟩ := basicM_zero hb
    obtain ⟨N, rfl⟩ := Int.eq_ofNat_of_zero_le hok.1
    have hfull : (greedy N (toNs l)).length = N := by
      apply Classical.byContradiction
      intro h
      unfold checkM at hc
      rw [orderM_cyc hb h] at hc
      cases hc
    have HM1 := hide (orderM_ok hb hfull)
    rw [hc]
    have HOK := hide hok
    clear hb hok hnd hc hfull
    go_wp2_with fail
    refine (rremove_any N A cp l w1 (HR.out.fr0 hf1) HOK.out).mono ?_
    rintro e w2 ⟨v, gg, rfl, hown, -, -, hf2⟩
    obtain ⟨A2, c2, rfl, -, -, -⟩ := own_slice hown
    have HOWN := hide (own_base hown hf1.size)
    clear hown
    go_wp2
    go_ret2
    exact ⟨.slice A2 (greedy N (toNs l)).length c2, by rw [HM1.out]; rfl, by rw [HM1.out]; exact HOWN.out, hf1.call hf2⟩
  · have hne : (checkM n l != 0) = true := by simp [hc]
    have hm1 : orderM n l = ([], checkM n l) := by
      by_cases hb : basicM n l = 0
      · obtain ⟨hok, hnd⟩ := basicM_zero hb
        obtain ⟨N, rfl⟩ := Int.eq_ofNat_of_zero_le hok.1
        by_cases hf : (greedy N (toNs l)).length = N
        · unfold checkM at hc
          rw [orderM_ok hb hf] at hc
          exact absurd rfl hc
        · unfold checkM
          rw [orderM_cyc hb hf]
      · unfold checkM
        rw [orderM_bad hb]
    have HM1 := hide hm1
    clear hm1 hc
    generalize checkM n l = x at hne HM1 ⊢
    go_wp2
    go_ret2
    exact ⟨.slice none 0 0, by rw [HM1.out]; rfl, by rw [HM1.out]; exact own_nil _ _ _ _, hf1⟩
end Go.Proofs.Ytinengemeppefaa

