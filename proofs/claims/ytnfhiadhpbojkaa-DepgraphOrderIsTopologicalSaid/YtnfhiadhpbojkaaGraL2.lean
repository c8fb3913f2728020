/- The law DepgraphCheckAgrees, walked. -/
import Derived.Test.YtnfhiadhpbojkaaGraL1
namespace Go.Proofs.Ytnfhiadhpbojkaa
open Go.RowKit

set_option maxHeartbeats 2000000 in
set_option maxRecDepth 100000 in
theorem checkAgrees_walk (n : Int) (A : Option Addr) (cp : Nat) (raw : List (Int × Int)) (w : World) (hr : Row w A (pcs raw)) (hm : raw.length ≤ maxLen) :
    Calls Try.prog 8 #[.int .i64 n, .slice A raw.length cp] w fun e w' => e = .returned (.bool true) ∧ Fr [] w w' := by
  unfold maxLen at hm
  have HR := hide hr
  clear hr
  by_cases h40 : 40 < raw.length
  · have hb : decide ((40 : Int) < (raw.length : Int)) = true := by simp; omega
    go_enter Try.func8, Try.ntmps8
    go_wp2_with fail
    refine (awake24_any w).mono ?_
    rintro e w1 ⟨rfl, hfr⟩
    go_wp2
    go_ret
    exact ⟨rfl, hfr⟩
  · have hb : decide ((40 : Int) < (raw.length : Int)) = false := by simp; omega
    have h40' : raw.length ≤ 40 := by omega
    clear h40 hm
    go_enter Try.func8, Try.ntmps8
    go_wp2_with fail
    refine (graph_any n A cp raw false w HR.out (by omega)).mono ?_
    rintro e w1 ⟨v1, rfl, hown1, hf1⟩
    obtain ⟨A1, c1, rfl, -, hrow1, -⟩ := own_slice hown1
    have hgl := (graphM_ok n raw false).len
    rw [← ofNs_length] at hgl
    rw [← ofNs_length]
    generalize ofNs (graphM n raw false) = l at hgl hrow1 ⊢
    have HG := hide hrow1
    clear hrow1 hown1
    go_wp2_with fail
    refine (graph_any n A cp raw true w1 (HR.out.fr0 hf1) (by omega)).mono ?_
    rintro e w2 ⟨v2, rfl, hown2, hf2⟩
    obtain ⟨A2, c2, rfl, -, hrow2, -⟩ := own_slice hown2
    have hgl2 := (graphM_ok n raw true).len
    rw [← ofNs_length] at hgl2
    rw [← ofNs_length]
    generalize ofNs (graphM n raw true) = d at hgl2 hrow2 ⊢
    generalize (gNodes n : Int) = m
    have HD := hide hrow2
    have HG2 := hide (HG.out.fr0 hf2)
    have hw2 := hf1.call hf2
    clear hrow2 hown2 HG
    go_wp2_with fail
    refine (check_any24 n A cp raw w2 (HR.out.fr0 hw2) (by omega)).mono ?_
    rintro e w3 ⟨rfl, hf3⟩
    have hw3 := hw2.call hf3
    go_wp2_with fail
    refine (rcheck_any24 n A cp raw w3 (HR.out.fr0 hw3) (by omega)).mono ?_
    rintro e w4 ⟨rfl, hf4⟩
    have hw4 := hw3.call hf4
    have h24 := hf3.trans hf4
    generalize checkM n raw = x1
    have e1 : (x1 == x1) = true := by simp
    clear hf3 hf4
    go_wp2_with fail
    refine (check_any24 m A1 c1 l w4 (HG2.out.fr0 h24) (by omega)).mono ?_
    rintro e w5 ⟨rfl, hf5⟩
    have h25 := h24.trans hf5
    go_wp2_with fail
    refine (rcheck_any24 m A1 c1 l w5 (HG2.out.fr0 h25) (by omega)).mono ?_
    rintro e w6 ⟨rfl, hf6⟩
    have h26 := h25.trans hf6
    generalize checkM m l = x2
    have e2 : (x2 == x2) = true := by simp
    clear hf5 hf6
    go_wp2_with fail
    refine (check_any24 m A2 c2 d w6 (HD.out.fr0 h26) (by omega)).mono ?_
    rintro e w7 ⟨rfl, hf7⟩
    have h27 := h26.trans hf7
    go_wp2_with fail
    refine (rcheck_any24 m A2 c2 d w7 (HD.out.fr0 h27) (by omega)).mono ?_
    rintro e w8 ⟨rfl, hf8⟩
    have h28 := h27.trans hf8
    generalize checkM m d = x3
    have e3 : (x3 == x3) = true := by simp
    go_wp2_with fail
    refine (awake24_any w8).mono ?_
    rintro e w9 ⟨rfl, hf9⟩
    go_wp2
    go_ret
    exact ⟨rfl, (hw2.call h28).call hf9⟩
end Go.Proofs.Ytnfhiadhpbojkaa
