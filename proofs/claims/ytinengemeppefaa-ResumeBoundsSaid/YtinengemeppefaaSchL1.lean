/- The law ResumeBounds, walked. -/
import Derived.Test.YtinengemeppefaaSchL0
namespace Go.Proofs.Ytinengemeppefaa
open Go.RowKit

set_option maxHeartbeats 4000000 in
set_option maxRecDepth 100000 in
theorem bounds_walk (n : Int) (A B : Option Addr) (cp cq : Nat) (raw : List (Int × Int)) (d : List Nat) (workers : Int) (w : World) (hr : Row w A (pcs raw)) (hm : raw.length ≤ maxLen) (hd : Row w B (d.map uv)) (hdm : d.length ≤ maxLen) :
    Calls Try.prog 5 #[.int .i64 n, .slice A raw.length cp, .slice B d.length cq, .int .i64 workers] w fun e w' => e = .returned (.bool true) ∧ Fr [] w w' := by
  unfold maxLen at hm
  have HR := hide hr
  have HD := hide hd
  clear hr hd
  by_cases h40 : 40 < raw.length
  · have hb : decide ((40 : Int) < (raw.length : Int)) = true := by simp; omega
    go_enter Try.func5, Try.ntmps5
    go_wp2_with fail
    refine (awake31_any w).mono ?_
    rintro e w1 ⟨rfl, hfr⟩
    go_wp2
    go_ret
    exact ⟨rfl, hfr⟩
  · have hb : decide ((40 : Int) < (raw.length : Int)) = false := by simp; omega
    have h40' : raw.length ≤ 40 := by omega
    clear h40 hm
    go_enter Try.func5, Try.ntmps5
    go_wp2_with fail
    refine (graph_any n A cp raw true w HR.out (by omega)).mono ?_
    rintro e w1 ⟨v1, rfl, hown1, hf1⟩
    obtain ⟨A1, c1, rfl, -, hrow1, -⟩ := own_slice hown1
    have hgok := graphM_ok n raw true
    have hN := gNodes_lt n
    generalize graphM n raw true = L at hgok hrow1 ⊢
    generalize gNodes n = N at hN hgok ⊢
    generalize umod n 13 = sh at hgok
    have hll : (ofNs L).length = L.length := ofNs_length L
    have HG := hide hrow1
    have HGO := hide hgok
    have hgl := hgok.len
    clear hrow1 hown1 hgok
    go_wp2_with fail
    refine (mod_any workers 5 _ (by omega) (by omega)).mono ?_
    rintro e w2 ⟨rfl, rfl⟩
    have hu5 := umod_lt workers (n := 5) (by omega)
    obtain ⟨V, hV⟩ : ∃ V, V = 1 + umod workers 5 := ⟨_, rfl⟩
    have hVi : (1 : Int) + (umod workers 5 : Int) = (V : Int) := by omega
    have hV5 : 1 ≤ V ∧ V ≤ 5 := by omega
    generalize umod workers 5 = um at hVi hu5 ⊢
    clear hV
    go_wp2_with fail
    refine (durations_any N B cq d w1 (HD.out.fr0 hf1) (by omega) hdm).mono ?_
    rintro e w2 ⟨v2, rfl, hown2, hf2⟩
    obtain ⟨A2, c2, rfl, -, hrow2, -⟩ := own_slice hown2
    have hul := durM_length N d
    have hcase := case31 (W := V) HGO.out (by omega) (by omega) hul (fun x hx => Nat.le_trans (durM_le hx) (by decide))
    have hu11 : ∀ x ∈ durM N d, x ≤ 11 := fun x hx => durM_le hx
    generalize durM N d = u at hul hcase hu11 hrow2
    have HU := hide hrow2
    have HC := hide hcase
    have HU11 := hide hu11
    have HG2 := hide (HG.out.fr0 hf2)
    clear hrow2 hown2 hcase hu11 HG
    have hq := schedule31_any (N : Int) (V : Int) A1 A2 c1 c2 (ofNs L) u w2 HG2.out HU.out (by omega)
    rw [hll, hul, HC.out.sch] at hq
    clear hVi hu5
    go_wp2_with fail
    refine hq.mono ?_
    clear hq
    rintro e w3 ⟨v3, rfl, hown3, hf3⟩
    obtain ⟨A3, c3, rfl, -, hrow3, -⟩ := own_slice hown3
    have HS := hide (show Row w3 A3 (rcells ((sched N L (durF u) V).map toR)) by rw [rcells_toR]; exact hrow3)
    have HG3 := hide (HG2.out.fr0 hf3)
    have HU3 := hide (HU.out.fr0 hf3)
    clear hrow3 hown3 HG2 HU
    have hq := critical31_any (N : Int) A1 A2 c1 c2 (ofNs L) u w3 HG3.out HU3.out (by omega)
    rw [hll, hul, HC.out.cp] at hq
    go_wp2_with fail
    refine hq.mono ?_
    clear hq
    rintro e w4 ⟨rfl, hf4⟩
    have HU4 := hide (HU3.out.fr0 hf4)
    have HS4 := hide (HS.out.fr0 hf4)
    have hw4 := ((hf1.call hf2).call hf3).call hf4
    have HSLEN := hide HC.out.done.len
    clear HU3 HS HG3 hf2 hf3 hf4
    go_wp2
    go_loopg [17, 18] N (fun m v i wr => TotRel w4 u N m v i wr)
    case atStart => exact ⟨0, by omega, rfl, rfl, rfl, rfl⟩
    case round =>
      obtain ⟨k, hk, rfl, rfl, rfl, hmm⟩ := hrel
      have HM := hide hmm
      clear hmm
      have hsum := sumTo_le (durF_le' HU11.out) k
      by_cases hlt : k < N
      · obtain ⟨x, hx⟩ : ∃ x, u[k]? = some x := ⟨_, List.getElem?_eq_getElem (by omega)⟩
        obtain ⟨ob, oo, rfl, e1⟩ := HU4.out.uint hx
        have hkl : (k : Int) < (N : Int) := by omega
        have hxl := HU11.out x (List.mem_of_getElem? hx)
        have HST : Hid (sumTo (durF u) (k + 1) = sumTo (durF u) k + x) := hide (by rw [← durF_get hx]; rfl)
        clear hx
        generalize sumTo (durF u) k = t at hsum HST ⊢
        have ht2 : (t : Int) ≤ 1000 := by omega
        clear hsum
        go_wp2
        go_roundg (N - (k + 1))
        case measure => rw [HM.out]; omega
        case rel => exact ⟨k + 1, by omega, by rw [HST.out]; rfl, by go_num, rfl, rfl⟩
      · have hkl : ¬ (k : Int) < (N : Int) := by omega
        obtain rfl : k = N := by omega
        have hq := makespan31_any A3 c3 ((sched k L (durF u) V).map toR) w4 HS4.out (by have := HSLEN.out; simp; omega)
        rw [List.length_map, mkR_toR] at hq
        have hti := HC.out.time_le HU11.out
        have ho := greedy_ord k L
        have g1 := HC.out.done.graham ho HC.out.full
        have g2 := HC.out.done.cp_le ho
        have g3 := HC.out.done.total_le
        rw [HC.out.done.total] at g1 g3
        have hm1 := hti.1
        clear hti ho
        generalize mkspan (sched k L (durF u) V) = T at hq g1 g2 g3 hm1
        generalize cpM L (durF u) (greedy k L) = C at g1 g2 ⊢
        generalize sumTo (durF u) k = S at g1 g3 hsum ⊢
        have hS : S ≤ 1000 := by omega
        have hT : T ≤ 1000 := by omega
        have hVT : V * T ≤ 5 * 1000 := Nat.mul_le_mul hV5.2 hT
        have hVC : (V - 1) * C ≤ 5 * 1000 := Nat.mul_le_mul (by omega) (by omega)
        have e1 : ((V : Int) * (T : Int)) = ((V * T : Nat) : Int) := by simp
        have e2 : ((V : Int) - 1) * (C : Int) = (((V - 1) * C : Nat) : Int) := by rw [Int.natCast_mul]; congr 1; omega
        have g2' : (C : Int) ≤ (T : Int) := by omega
        have g3' : (S : Int) ≤ (V : Int) * (T : Int) := by rw [e1]; omega
        have g1' : (V : Int) * (T : Int) ≤ (S : Int) + ((V : Int) - 1) * (C : Int) := by rw [e1, e2]; omega
        have b1 : (V : Int) * (T : Int) ≤ 5000 := by rw [e1]; omega
        have b2 : ((V : Int) - 1) * (C : Int) ≤ 5000 := by rw [e2]; omega
        have b3 : 0 ≤ (V : Int) * (T : Int) := by rw [e1]; omega
        have b4 : 0 ≤ ((V : Int) - 1) * (C : Int) := by rw [e2]; omega
        have hV1 : (1 : Int) ≤ (V : Int) := by omega
        have hV2 : (V : Int) ≤ 5 := by omega
        clear g1 g2 g3 hm1 hVT hVC e1 e2 hsum HM HU4
        go_wp2_with fail
        refine hq.mono ?_
        clear hq
        rintro e w5 ⟨rfl, hf5⟩
        go_wp2_with fail
        refine (awake31_any _).mono ?_
        rintro e w6 ⟨rfl, hf6⟩
        go_wp2
        go_ret
        exact ⟨rfl, (hw4.call hf5).call hf6⟩
end Go.Proofs.Ytinengemeppefaa
