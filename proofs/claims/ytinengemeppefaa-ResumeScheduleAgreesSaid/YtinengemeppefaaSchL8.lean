/- The law ResumeScheduleAgrees, walked. -/
import Derived.Test.YtinengemeppefaaSchL0
import Derived.Test.YtinengemeppefaaSchR3b
import Derived.Test.YtinengemeppefaaSchR4
namespace Go.Proofs.Ytinengemeppefaa
open Go.RowKit

theorem schedM_len (n : Int) (l : List (Int × Int)) (dur : List Nat) (W : Int) : (schedM n l dur W).1.length ≤ 4096 := by
  by_cases h : chkM n l dur W = 0
  · rw [schedM_ok h]
    obtain ⟨N, V, rfl, rfl, hg⟩ := chkM_good h
    have h1 := (fin_rch (N := N) (L := toNs l) (D := durF dur) (W := V)).inv.len
    have h2 := hg.nodes
    rw [Int.toNat_natCast, Int.toNat_natCast]
    exact Nat.le_trans h1 (by omega)
  · rw [schedM_bad h]
    simp
set_option maxHeartbeats 8000000 in
set_option maxRecDepth 100000 in
theorem schedAgrees_walk (n : Int) (A B : Option Addr) (cp cq : Nat) (raw : List (Int × Int)) (d : List Nat) (workers : Int) (w : World) (hr : Row w A (pcs raw)) (hm : raw.length ≤ maxLen) (hd : Row w B (d.map uv)) (hdm : d.length ≤ maxLen) :
    Calls Try.prog 3 #[.int .i64 n, .slice A raw.length cp, .slice B d.length cq, .int .i64 workers] w fun e w' => e = .returned (.bool true) ∧ Fr [] w w' := by
  have HR := hide hr
  have HD := hide hd
  have HDM := hide hdm
  unfold maxLen at hm hdm
  clear hr hd
  by_cases h40 : 40 < raw.length
  · have hb : decide ((40 : Int) < (raw.length : Int)) = true := by simp; omega
    go_enter Try.func3, Try.ntmps3
    go_wp2_with fail
    refine (awake31_any w).mono ?_
    rintro e w1 ⟨rfl, hfr⟩
    go_wp2
    go_ret
    exact ⟨rfl, hfr⟩
  have hb : decide ((40 : Int) < (raw.length : Int)) = false := by simp; omega
  have h40' : raw.length ≤ 40 := by omega
  by_cases h20 : 20 < d.length
  · have hb2 : decide ((20 : Int) < (d.length : Int)) = true := by simp; omega
    go_enter Try.func3, Try.ntmps3
    go_wp2_with fail
    refine (awake31_any w).mono ?_
    rintro e w1 ⟨rfl, hfr⟩
    go_wp2
    go_ret
    exact ⟨rfl, hfr⟩
  have hb2 : decide ((20 : Int) < (d.length : Int)) = false := by simp; omega
  clear h40 h20 hm hdm
  go_enter Try.func3, Try.ntmps3
  go_wp2_with fail
  refine (graph_any n A cp raw true w HR.out (by omega)).mono ?_
  rintro e w1 ⟨v1, rfl, hown1, hf1⟩
  obtain ⟨A1, c1, rfl, -, hrow1, -⟩ := own_slice hown1
  have hgok := graphM_ok n raw true
  have hN := gNodes_lt n
  generalize graphM n raw true = L at hgok hrow1 ⊢
  generalize gNodes n = N at hN hgok ⊢
  generalize umod n 13 = sh at hgok
  have HLL := hide (ofNs_length L)
  have HG := hide hrow1
  have hgl := hgok.len
  clear hrow1 hown1 hgok
  go_wp2_with fail
  refine (mod_any workers 5 _ (by omega) (by omega)).mono ?_
  rintro e w2 ⟨rfl, rfl⟩
  have hu5 := umod_lt workers (n := 5) (by omega)
  obtain ⟨V, hV⟩ : ∃ V, V = 1 + umod workers 5 := ⟨_, rfl⟩
  have hVi : (1 : Int) + (umod workers 5 : Int) = (V : Int) := by omega
  generalize umod workers 5 = um at hVi hu5 ⊢
  clear hV
  go_wp2_with fail
  refine (durations_any N B cq d w1 (HD.out.fr0 hf1) (by omega) HDM.out).mono ?_
  rintro e w2 ⟨v2, rfl, hown2, hf2⟩
  obtain ⟨A2, c2, rfl, -, hrow2, -⟩ := own_slice hown2
  have hul := durM_length N d
  generalize durM N d = u at hul hrow2
  have HUL := hide hul
  have hf02 := hf1.call hf2
  have HG2 := hide (HG.out.fr0 hf2)
  have HU2 := hide hrow2
  have HD2 := hide (HD.out.fr0 hf02)
  have HR2 := hide (HR.out.fr0 hf02)
  clear hul hrow2 hown2 HG HD HR hf2 hf1
  have hlb : (ofNs L).length ≤ 4096 := by have := HLL.out; omega
  have HLB := hide hlb
  clear hlb
  -- the first pair of schedules
  go_wp2_with fail
  have hq := schedule31_any (N : Int) (V : Int) A1 A2 c1 c2 (ofNs L) u w2 HG2.out HU2.out HLB.out
  rw [HLL.out, HUL.out] at hq
  have hsl := schedM_len (N : Int) (ofNs L) u (V : Int)
  generalize hR : schedM (N : Int) (ofNs L) u (V : Int) = R at hq hsl
  have HR0 := hide hR
  clear hR
  refine hq.mono ?_
  clear hq
  rintro e w3 ⟨v3, rfl, hown3, hf3⟩
  obtain ⟨A3, c3, rfl, -, hrow3, -⟩ := own_slice hown3
  have hf23 := hf3
  have HS3 := hide (show Row w3 A3 (rcells (R.1.map toR)) by rw [rcells_toR]; exact hrow3)
  clear hrow3 hown3
  go_wp2_with fail
  have hq := rschedule31_any (N : Int) (V : Int) A1 A2 c1 c2 (ofNs L) u w3 (HG2.out.fr0 hf23) (HU2.out.fr0 hf23) HLB.out
  rw [HLL.out, HUL.out, HR0.out] at hq
  refine hq.mono ?_
  clear hq
  rintro e w4 ⟨v4, rfl, hown4, hf4⟩
  obtain ⟨A4, c4, rfl, -, hrow4, -⟩ := own_slice hown4
  have hf24 := hf23.call hf4
  have HS4 := hide (show Row w4 A4 (rcells (R.1.map toR)) by rw [rcells_toR]; exact hrow4)
  clear hrow4 hown4 HR0
  go_wp2_with fail
  have hq := critical31_any (N : Int) A1 A2 c1 c2 (ofNs L) u w4 (HG2.out.fr0 hf24) (HU2.out.fr0 hf24) HLB.out
  rw [HLL.out, HUL.out] at hq
  generalize hC : cpathM (N : Int) (ofNs L) u = C at hq
  have HC0 := hide hC
  clear hC
  refine hq.mono ?_
  clear hq
  rintro e w5 ⟨rfl, hf5⟩
  have hf25 := hf24.call hf5
  go_wp2_with fail
  have hq := rcritical31_any (N : Int) A1 A2 c1 c2 (ofNs L) u w5 (HG2.out.fr0 hf25) (HU2.out.fr0 hf25) HLB.out
  rw [HLL.out, HUL.out, HC0.out] at hq
  refine hq.mono ?_
  clear hq
  rintro e w6 ⟨rfl, hf6⟩
  have hf26 := hf25.call hf6
  have HS36 := hide (HS3.out.fr0 (((hf4.call hf5).call hf6)))
  have HS46 := hide (HS4.out.fr0 (hf5.call hf6))
  have hn1 : (R.2 != R.2) = false := by simp
  have hn2 : (C.2 != C.2) = false := by simp
  have hn3 : ((C.1 : Int) != (C.1 : Int)) = false := by simp
  have HRL : Hid ((R.1.map toR).length = R.1.length) := hide (List.length_map _)
  have HRB : Hid ((R.1.map toR).length ≤ 4096) := hide (by rw [List.length_map]; exact hsl)
  clear HS3 HS4 HC0 hsl hf3 hf23 hf24 hf25 hf4 hf5 hf6
  go_wp2_with fail
  have hq := equalSlots_any A3 A4 c3 c4 (R.1.map toR) (R.1.map toR) w6 HS36.out HS46.out HRB.out
  rw [HRL.out] at hq
  refine hq.mono ?_
  clear hq
  rintro e w7 ⟨rfl, hf7⟩
  rw [decide_eq_true rfl]
  go_wp2_with fail
  have hq := makespan31_any A3 c3 (R.1.map toR) w7 (HS36.out.fr0 hf7) HRB.out
  rw [HRL.out] at hq
  refine hq.mono ?_
  clear hq
  rintro e w8 ⟨rfl, hf8⟩
  go_wp2_with fail
  have hq := rmakespan31_any A4 c4 (R.1.map toR) w8 ((HS46.out.fr0 hf7).fr0 hf8) HRB.out
  rw [HRL.out] at hq
  refine hq.mono ?_
  clear hq
  rintro e w9 ⟨rfl, hf9⟩
  have hf29 := ((hf26.call hf7).call hf8).call hf9
  have hn4 : ((mkR (R.1.map toR) : Int) != (mkR (R.1.map toR) : Int)) = false := by simp
  clear HS36 HS46 hf26 hf7 hf8 hf9
  -- the second pair, at raw durations and workers
  go_wp2_with fail
  have hq := schedule31_any (N : Int) workers A1 B c1 cq (ofNs L) d w9 (HG2.out.fr0 hf29) (HD2.out.fr0 hf29) HLB.out
  rw [HLL.out] at hq
  have hsl := schedM_len (N : Int) (ofNs L) d workers
  generalize hR : schedM (N : Int) (ofNs L) d workers = R2 at hq hsl
  have HR0 := hide hR
  clear hR
  refine hq.mono ?_
  clear hq
  rintro e wA ⟨v3, rfl, hown3, hfA⟩
  obtain ⟨B3, k3, rfl, -, hrow3, -⟩ := own_slice hown3
  have hf2A := hf29.call hfA
  have HS3 := hide (show Row wA B3 (rcells (R2.1.map toR)) by rw [rcells_toR]; exact hrow3)
  clear hrow3 hown3
  go_wp2_with fail
  have hq := rschedule31_any (N : Int) workers A1 B c1 cq (ofNs L) d wA (HG2.out.fr0 hf2A) (HD2.out.fr0 hf2A) HLB.out
  rw [HLL.out, HR0.out] at hq
  refine hq.mono ?_
  clear hq
  rintro e wB ⟨v4, rfl, hown4, hfB⟩
  obtain ⟨B4, k4, rfl, -, hrow4, -⟩ := own_slice hown4
  have hf2B := hf2A.call hfB
  have HS4 := hide (show Row wB B4 (rcells (R2.1.map toR)) by rw [rcells_toR]; exact hrow4)
  clear hrow4 hown4 HR0
  go_wp2_with fail
  have hq := critical31_any n A B cp cq raw d wB (HR2.out.fr0 hf2B) (HD2.out.fr0 hf2B) (by omega)
  generalize hC : cpathM n raw d = C2 at hq
  have HC0 := hide hC
  clear hC
  refine hq.mono ?_
  clear hq
  rintro e wC ⟨rfl, hfC⟩
  have hf2C := hf2B.call hfC
  go_wp2_with fail
  have hq := rcritical31_any n A B cp cq raw d wC (HR2.out.fr0 hf2C) (HD2.out.fr0 hf2C) (by omega)
  rw [HC0.out] at hq
  refine hq.mono ?_
  clear hq
  rintro e wD ⟨rfl, hfD⟩
  have hf2D := hf2C.call hfD
  have HS36 := hide (HS3.out.fr0 ((hfB.call hfC).call hfD))
  have HS46 := hide (HS4.out.fr0 (hfC.call hfD))
  have HRL2 : Hid ((R2.1.map toR).length = R2.1.length) := hide (List.length_map _)
  have HRB2 : Hid ((R2.1.map toR).length ≤ 4096) := hide (by rw [List.length_map]; exact hsl)
  clear HS3 HS4 HC0 hsl
  go_wp2_with fail
  have hq := equalSlots_any B3 B4 k3 k4 (R2.1.map toR) (R2.1.map toR) wD HS36.out HS46.out HRB2.out
  rw [HRL2.out] at hq
  refine hq.mono ?_
  clear hq
  rintro e wE ⟨rfl, hfE⟩
  rw [decide_eq_true rfl]
  go_wp2_with fail
  refine (awake31_any wE).mono ?_
  rintro e wF ⟨rfl, hfF⟩
  go_wp2
  go_ret
  exact ⟨rfl, ((hf02.call hf2D).call hfE).call hfF⟩
end Go.Proofs.Ytinengemeppefaa
