/- The law DepgraphClosureDuality, walked: the law itself. -/
import Derived.Test.YtnfhiadhpbojkaaGraL8Mg
namespace Go.Proofs.Ytnfhiadhpbojkaa
open Go.RowKit

set_option maxHeartbeats 8000000 in
set_option maxRecDepth 100000 in
theorem duality_walk (n : Int) (A : Option Addr) (cp : Nat) (raw : List (Int × Int)) (x y : Int) (w : World) (hr : Row w A (pcs raw)) (hm : raw.length ≤ maxLen) :
    Calls Try.prog 11 #[.int .i64 n, .slice A raw.length cp, .int .i64 x, .int .i64 y] w fun e w' => e = .returned (.bool true) ∧ Fr [] w w' := by
  unfold maxLen at hm
  have HR := hide hr
  clear hr
  by_cases h40 : 40 < raw.length
  · have hb : decide ((40 : Int) < (raw.length : Int)) = true := by simp; omega
    go_enter Try.func11, Try.ntmps11
    go_wp2_with fail
    refine (awake24_any w).mono ?_
    rintro e w1 ⟨rfl, hfr⟩
    go_wp2
    go_ret
    exact ⟨rfl, hfr⟩
  · have hb : decide ((40 : Int) < (raw.length : Int)) = false := by simp; omega
    have h40' : raw.length ≤ 40 := by omega
    clear h40 hm
    go_enter Try.func11, Try.ntmps11
    go_wp2_with fail
    refine (graph_any n A cp raw false w HR.out (by omega)).mono ?_
    rintro e w1 ⟨v1, rfl, hown1, hf1⟩
    obtain ⟨A1, c1, rfl, -, hrow1, -⟩ := own_slice hown1
    have hgok := graphM_ok n raw false
    have hN := gNodes_lt n
    have hbas := (hgok.links (by omega)).2.2
    have hgl := hgok.len
    clear hgok
    generalize graphM n raw false = L at hgl hrow1 hbas ⊢
    generalize gNodes n = N at hN hbas ⊢
    have hll : (ofNs L).length = L.length := ofNs_length L
    have hgl' : (ofNs L).length ≤ 40 := by omega
    have HG := hide hrow1
    clear hrow1 hown1
    by_cases h0 : N = 0
    · have h0b : ((N : Int) == 0) = true := by simp [h0]
      go_wp2_with fail
      refine (awake24_any _).mono ?_
      rintro e w2 ⟨rfl, hf2⟩
      go_wp2
      go_ret
      exact ⟨rfl, hf1.call hf2⟩
    · have h0b : ((N : Int) == 0) = false := beq_eq_false_iff_ne.2 (by omega)
      have hN0 : 0 < N := by omega
      obtain ⟨up, down, hd⟩ := dual_ok hbas (umod_lt x hN0) (umod_lt y hN0)
      have HD := hide hd
      clear hd hbas h0
      go_wp2_with fail
      refine (mod_any x N _ hN0 (by omega)).mono ?_
      rintro e w2 ⟨rfl, rfl⟩
      go_wp2_with fail
      refine (mod_any y N _ hN0 (by omega)).mono ?_
      rintro e w2 ⟨rfl, rfl⟩
      generalize umod x N = a at HD ⊢
      generalize umod y N = b at HD ⊢
      have hlen := HD.out.len
      have hq := suppliers_any (N : Int) A1 (some ⟨w1.heap.size, 0, none⟩) c1 1 (ofNs L) [(a : Int)] _ (HG.out.fr0 ((Fr.refl [] w1).alloc (.cells #[.int .i64 (a : Int)] 3))) (row_one w1 _ _) (by omega) (by simp)
      rw [hll] at hq
      go_wp2_with fail
      refine hq.mono ?_
      clear hq
      rintro e w2 ⟨v2, rfl, hown, hf2⟩
      rw [HD.out.hup] at hown ⊢
      obtain ⟨A2, c2, rfl, -, hrow, -⟩ := own_slice hown
      have H2 := hide hrow
      have g2 : Fr [] w1 w2 := ((Fr.refl [] w1).alloc _).call hf2
      clear hown hrow hf2
      have hq := consumers_any (N : Int) A1 (some ⟨w2.heap.size, 0, none⟩) c1 1 (ofNs L) [(b : Int)] _ ((HG.out.fr0 g2).fr0 ((Fr.refl [] w2).alloc (.cells #[.int .i64 (b : Int)] 3))) (row_one w2 _ _) (by omega) (by simp)
      rw [hll] at hq
      go_wp2_with fail
      refine hq.mono ?_
      clear hq
      rintro e w3 ⟨v3, rfl, hown, hf3⟩
      rw [HD.out.hdown] at hown ⊢
      obtain ⟨A3, c3, rfl, -, hrow, -⟩ := own_slice hown
      have H3 := hide hrow
      have g23 : Fr [] w2 w3 := ((Fr.refl [] w2).alloc _).call hf3
      have g3 := g2.trans g23
      have H23 := hide (H2.out.fr0 g23)
      clear hown hrow hf3 H2
      have hq := suppliers_any (N : Int) A1 A2 c1 c2 (ofNs L) (toI up) w3 (HG.out.fr0 g3) (by rw [toI_cells]; exact H23.out) (by omega) (by rw [toI_length]; omega)
      rw [hll, toI_length] at hq
      go_wp2_with fail
      refine hq.mono ?_
      clear hq
      rintro e w4 ⟨v4, rfl, hown, hf4⟩
      rw [HD.out.again] at hown ⊢
      obtain ⟨A4, c4, rfl, -, hrow, -⟩ := own_slice hown
      have H4 := hide hrow
      have H24 := hide (H23.out.fr0 hf4)
      have H34 := hide (H3.out.fr0 hf4)
      have hw4 := hf1.call (g3.trans hf4)
      clear hown hrow H23 H3
      have hq := contains24_any A2 c2 (toI up) (b : Int) w4 (by rw [toI_cells]; exact H24.out) (by rw [toI_length]; omega)
      rw [toI_length] at hq
      go_wp2_with fail
      refine hq.mono ?_
      clear hq
      rintro e w5 ⟨rfl, rfl⟩
      have hq := contains24_any A3 c3 (toI down) (a : Int) w4 (by rw [toI_cells]; exact H34.out) (by rw [toI_length]; omega)
      rw [toI_length] at hq
      go_wp2_with fail
      refine hq.mono ?_
      clear hq
      rintro e w5 ⟨rfl, rfl⟩
      have hdd : decide ((b : Int) ∈ toI up) = decide ((a : Int) ∈ toI down) := decide_eq_decide.2 (toI_mem.trans (HD.out.dual.trans toI_mem.symm))
      rw [hdd]
      generalize decide ((a : Int) ∈ toI down) = bb
      have ebb : (bb == bb) = true := by simp
      have hq := contains24_any A2 c2 (toI up) (a : Int) w4 (by rw [toI_cells]; exact H24.out) (by rw [toI_length]; omega)
      rw [toI_length, decide_eq_true (toI_mem.2 HD.out.self)] at hq
      clear hdd
      go_wp2_with fail
      refine hq.mono ?_
      clear hq
      rintro e w5 ⟨rfl, rfl⟩
      go_wp2_with fail
      refine (equalNats_any A4 A2 c4 c2 up up w4 H4.out H24.out (by omega) (by omega)).mono ?_
      rintro e w5 ⟨rfl, hf5⟩
      rw [decide_eq_true rfl]
      go_wp2_with fail
      refine (awake24_any _).mono ?_
      rintro e w6 ⟨rfl, hf6⟩
      go_wp2
      go_ret
      exact ⟨rfl, (hw4.call hf5).call hf6⟩
end Go.Proofs.Ytnfhiadhpbojkaa

