/- The laws DepgraphOrderAgrees and DepgraphCheckAgrees, walked. -/
import Derived.Test.YtnfhiadhpbojkaaGraR4Mg
import Derived.Test.YtnfhiadhpbojkaaGraW7Mg
import Derived.Test.YtnfhiadhpbojkaaMgDepgraphMinimal8
namespace Go.Proofs.Ytnfhiadhpbojkaa
open Go.RowKit

theorem orderM_len (n : Int) (l : List (Int × Int)) : (orderM n l).1.length ≤ 128 := by
  by_cases h : (orderM n l).2 = 0
  · obtain ⟨N, rfl, hN, -, -, -, hf, e⟩ := orderM_zero h
    rw [e]
    simp only
    omega
  · by_cases hb : basicM n l = 0
    · obtain ⟨hok, hnd⟩ := basicM_zero hb
      obtain ⟨N, rfl⟩ := Int.eq_ofNat_of_zero_le hok.1
      by_cases hf : (greedy N (toNs l)).length = N
      · rw [orderM_ok hb hf] at h
        exact absurd rfl h
      · rw [orderM_cyc hb hf]
        simp
    · rw [orderM_bad hb]
      simp
set_option maxHeartbeats 2000000 in
set_option maxRecDepth 100000 in
theorem orderAgrees_walk (n : Int) (A : Option Addr) (cp : Nat) (raw : List (Int × Int)) (ac : Bool) (w : World) (hr : Row w A (pcs raw)) (hm : raw.length ≤ maxLen) :
    Calls Try.prog 3 #[.int .i64 n, .slice A raw.length cp, .bool ac] w fun e w' => e = .returned (.bool true) ∧ Fr [] w w' := by
  unfold maxLen at hm
  have HR := hide hr
  clear hr
  by_cases h40 : 40 < raw.length
  · have hb : decide ((40 : Int) < (raw.length : Int)) = true := by simp; omega
    go_enter Try.func3, Try.ntmps3
    go_wp2_with fail
    refine (awake24_any w).mono ?_
    rintro e w1 ⟨rfl, hfr⟩
    go_wp2
    go_ret
    exact ⟨rfl, hfr⟩
  · have hb : decide ((40 : Int) < (raw.length : Int)) = false := by simp; omega
    have h40' : raw.length ≤ 40 := by omega
    clear h40 hm
    go_enter Try.func3, Try.ntmps3
    go_wp2_with fail
    refine (graph_any n A cp raw ac w HR.out (by omega)).mono ?_
    rintro e w1 ⟨v1, rfl, hown1, hf1⟩
    obtain ⟨A1, c1, rfl, -, hrow1, -⟩ := own_slice hown1
    have hgl := (graphM_ok n raw ac).len
    rw [← ofNs_length] at hgl
    rw [← ofNs_length]
    generalize ofNs (graphM n raw ac) = l at hgl hrow1 ⊢
    generalize (gNodes n : Int) = m
    have HG := hide hrow1
    clear hrow1 hown1
    go_wp2_with fail
    refine (order_any24 n A cp raw w1 (HR.out.fr0 hf1) (by omega)).mono ?_
    rintro e w2 ⟨v2, rfl, hown2, hf2⟩
    obtain ⟨A2, c2, rfl, -, hrow2, -⟩ := own_slice hown2
    have H2 := hide hrow2
    have hw2 := hf1.call hf2
    have HG2 := hide (HG.out.fr0 hf2)
    clear hrow2 hown2 HG
    go_wp2_with fail
    refine (rorder_any24 n A cp raw w2 (HR.out.fr0 hw2) (by omega)).mono ?_
    rintro e w3 ⟨v3, rfl, hown3, hf3⟩
    obtain ⟨A3, c3, rfl, -, hrow3, -⟩ := own_slice hown3
    have H23 := hide (H2.out.fr0 hf3)
    have H3 := hide hrow3
    have hw3 := hw2.call hf3
    have HG3 := hide (HG2.out.fr0 hf3)
    clear hrow3 hown3 HG2 H2
    go_wp2_with fail
    refine (order_any24 m A1 c1 l w3 HG3.out (by omega)).mono ?_
    rintro e w4 ⟨v4, rfl, hown4, hf4⟩
    obtain ⟨A4, c4, rfl, -, hrow4, -⟩ := own_slice hown4
    have H24 := hide (H23.out.fr0 hf4)
    have H34 := hide (H3.out.fr0 hf4)
    have H4 := hide hrow4
    have hw4 := hw3.call hf4
    have HG4 := hide (HG3.out.fr0 hf4)
    clear hrow4 hown4 HG3 H23 H3
    go_wp2_with fail
    refine (rorder_any24 m A1 c1 l w4 HG4.out (by omega)).mono ?_
    rintro e w5 ⟨v5, rfl, hown5, hf5⟩
    obtain ⟨A5, c5, rfl, -, hrow5, -⟩ := own_slice hown5
    have H25 := hide (H24.out.fr0 hf5)
    have H35 := hide (H34.out.fr0 hf5)
    have H45 := hide (H4.out.fr0 hf5)
    have H5 := hide hrow5
    have hw5 := hw4.call hf5
    clear hrow5 hown5 HG4 H24 H34 H4
    have ho1 : (orderM n raw).1.length ≤ 128 := orderM_len n raw
    have ho2 : (orderM m l).1.length ≤ 128 := orderM_len m l
    generalize orderM n raw = o1 at ho1 H25 H35 ⊢
    generalize orderM m l = o2 at ho2 H45 H5 ⊢
    have e1 : (o1.2 == o1.2) = true := by simp
    have e2 : (o2.2 == o2.2) = true := by simp
    go_wp2_with fail
    refine (equalNats_any A2 A3 c2 c3 o1.1 o1.1 w5 H25.out H35.out (by omega) (by omega)).mono ?_
    rintro e w6 ⟨rfl, hf6⟩
    rw [decide_eq_true rfl]
    go_wp2_with fail
    refine (equalNats_any A4 A5 c4 c5 o2.1 o2.1 w6 (H45.out.fr0 hf6) (H5.out.fr0 hf6) (by omega) (by omega)).mono ?_
    rintro e w7 ⟨rfl, hf7⟩
    rw [decide_eq_true rfl]
    go_wp2_with fail
    refine (awake24_any w7).mono ?_
    rintro e w8 ⟨rfl, hf8⟩
    go_wp2
    go_ret
    exact ⟨rfl, ((hw5.call hf6).call hf7).call hf8⟩
end Go.Proofs.Ytnfhiadhpbojkaa

