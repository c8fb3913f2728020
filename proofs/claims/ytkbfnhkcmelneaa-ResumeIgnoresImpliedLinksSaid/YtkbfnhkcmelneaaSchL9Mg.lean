/- The law ResumeIgnoresImpliedLinks, walked. -/
import Derived.Test.YtkbfnhkcmelneaaResPMg
namespace Go.Proofs.Ytkbfnhkcmelneaa
open Go.RowKit

set_option maxHeartbeats 8000000 in
set_option maxRecDepth 100000 in
theorem implied_walk (n : Int) (A B : Option Addr) (cp cq : Nat) (raw : List (Int × Int)) (d : List Nat) (workers : Int) (w : World) (hr : Row w A (pcs raw)) (hm : raw.length ≤ maxLen) (hd : Row w B (d.map uv)) (hdm : d.length ≤ maxLen) :
    Calls Try.prog 3 #[.int .i64 n, .slice A raw.length cp, .slice B d.length cq, .int .i64 workers] w fun e w' => e = .returned (.bool true) ∧ Fr [] w w' := by
  unfold maxLen at hm
  have HR := hide hr
  have HD := hide hd
  clear hr hd
  by_cases h40 : 40 < raw.length
  · have hb : decide ((40 : Int) < (raw.length : Int)) = true := by simp; omega
    go_enter Try.func3, Try.ntmps3
    go_wp2_with fail
    refine (awake31_any w).mono ?_
    rintro e w1 ⟨rfl, hfr⟩
    go_wp2
    go_ret
    exact ⟨rfl, hfr⟩
  · have hb : decide ((40 : Int) < (raw.length : Int)) = false := by simp; omega
    have h40' : raw.length ≤ 40 := by omega
    clear h40 hm
    go_enter Try.func3, Try.ntmps3
    go_wp2_with fail
    refine (graph_any n A cp raw true w HR.out (by omega)).mono ?_
    rintro e w1 ⟨v1, rfl, hown1, hf1⟩
    obtain ⟨A1, c1, rfl, -, hrow1, -⟩ := own_slice hown1
    have hgok := graphM_ok n raw true
    have hN := gNodes_lt n
    generalize graphM n raw true = L at hgok hrow1 ⊢
    generalize gNodes n = N at hN hgok ⊢
    generalize umod n 13 = sh at hgok
    have HLL := hide (ofNs_length L)
    have HG := hide hrow1
    have HGO := hide hgok
    have hgl := hgok.len
    clear hrow1 hown1 hgok
    go_wp2_with fail
    refine (mod_any workers 5 _ (by omega) (by omega)).mono ?_
    rintro e w2 ⟨rfl, rfl⟩
    have hu5 := umod_lt workers (n := 5) (by omega)
    obtain ⟨V, hV⟩ : ∃ V, V = 1 + umod workers 5 := ⟨_, rfl⟩
    have hVi : (1 : Int) + (umod workers 5 : Int) = (V : Int) := by omega
    have hV5 : 1 ≤ V ∧ V ≤ 5 := by omega
    generalize umod workers 5 = um at hVi hu5 ⊢
    clear hV
    go_wp2_with fail
    refine (durations_any N B cq d w1 (HD.out.fr0 hf1) (by omega) hdm).mono ?_
    rintro e w2 ⟨v2, rfl, hown2, hf2⟩
    obtain ⟨A2, c2, rfl, -, hrow2, -⟩ := own_slice hown2
    have hul := durM_length N d
    have hcase := case31 (W := V) HGO.out (by omega) (by omega) hul (fun x hx => Nat.le_trans (durM_le hx) (by decide))
    generalize durM N d = u at hul hcase hrow2
    have hro := red_ok hcase HGO.out.nodup
    generalize sortL (keptTo N L N) = r at hro
    have HRO := hide hro
    have HUL := hide hul
    have HU := hide hrow2
    have HC := hide hcase
    have HG2 := hide (HG.out.fr0 hf2)
    have hw2 := hf1.call hf2
    clear hrow2 hown2 hcase HG hul hf2 hro
    have hq := reduce_any (N : Int) A1 c1 (ofNs L) w2 HG2.out (by have := HLL.out; omega)
    unfold RedRet at hq
    rw [HLL.out, HRO.out.red] at hq
    go_wp2_with fail
    refine hq.mono ?_
    clear hq
    rintro e w3 ⟨v3, rfl, hown3, hf3⟩
    simp only at hown3 ⊢
    obtain ⟨A3, c3, rfl, -, hrow3, -⟩ := own_slice hown3
    have H3 := hide hrow3
    have HG3 := hide (HG2.out.fr0 hf3)
    have HU3 := hide (HU.out.fr0 hf3)
    have hw3 := hw2.call hf3
    have hrl := HRO.out.len
    clear hrow3 hown3 HG2 HU
    have hq := schedule31_any (N : Int) (V : Int) A1 A2 c1 c2 (ofNs L) u w3 HG3.out HU3.out (by have := HLL.out; omega)
    rw [HLL.out, HUL.out, HC.out.sch] at hq
    go_wp2_with fail
    refine hq.mono ?_
    clear hq
    rintro e w4 ⟨v4, rfl, hown4, hf4⟩
    obtain ⟨A4, c4, rfl, -, hrow4, -⟩ := own_slice hown4
    have HS4 := hide hrow4
    have H34 := hide (H3.out.fr0 hf4)
    have HU4 := hide (HU3.out.fr0 hf4)
    have hw4 := hw3.call hf4
    clear hrow4 hown4 HG3 HU3 H3
    have hq := schedule31_any (N : Int) (V : Int) A3 A2 c3 c2 r u w4 H34.out HU4.out (by omega)
    rw [HUL.out, HRO.out.sch] at hq
    have HSLEN := hide HC.out.done.len
    simp only
    generalize sched N L (durF u) V = S at HS4 HSLEN hq ⊢
    go_wp2_with fail
    refine hq.mono ?_
    clear hq
    rintro e w5 ⟨v5, rfl, hown5, hf5⟩
    obtain ⟨A5, c5, rfl, -, hrow5, -⟩ := own_slice hown5
    have HS5 := hide (show Row w5 A4 (rcells (S.map toR)) by rw [rcells_toR]; exact HS4.out.fr0 hf5)
    have HT5 := hide (show Row w5 A5 (rcells (S.map toR)) by rw [rcells_toR]; exact hrow5)
    have hw5 := hw4.call hf5
    clear hrow5 hown5 H34 HU4 HS4 hf5
    have hSL := HSLEN.out
    have he1 : ((S.length : Int) == (N : Int)) = true := by simp [hSL]
    have he2 : decide ((S.length : Int) = (N : Int)) = true := by simp [hSL]
    have hq := equalSlots_any A4 A5 c4 c5 (S.map toR) (S.map toR) w5 HS5.out HT5.out (by simp; omega)
    rw [List.length_map, decide_eq_true rfl] at hq
    clear hSL
    go_wp2_with fail
    refine hq.mono ?_
    clear hq
    rintro e w6 ⟨rfl, hf6⟩
    go_wp2_with fail
    refine (awake31_any w6).mono ?_
    rintro e w7 ⟨rfl, hf7⟩
    go_wp2
    go_ret
    exact ⟨rfl, (hw5.call hf6).call hf7⟩
end Go.Proofs.Ytkbfnhkcmelneaa

