/- The law SuspendTraceAgrees, walked. -/
import Derived.Test.YtgbkgiglagfciaaSuspW10
import Derived.Test.YtgbkgiglagfciaaSuspR8
namespace Go.Proofs.Ytgbkgiglagfciaa
open Go.RowKit

theorem traceF_len (res : List Int) : ∀ (k : Nat) (S : Seq) (ops : List (Nat × Nat)), (traceF res k S ops).length ≤ ops.length + k
  | 0, _, _ => by simp [traceF]
  | k + 1, S, ops => by
    rw [traceF]
    split
    · refine Nat.le_trans (traceF_len res k _ _) ?_
      simp
      omega
    · omega
theorem traceM_len (l res : List Int) : (traceM l res).length ≤ 600 := by
  unfold traceM
  split
  · rename_i h
    have h64 := (okB_iff.1 h).1
    refine Nat.le_trans (traceF_len res _ _ _) ?_
    simp
    omega
  · simp
theorem errno_info : (Try.prog.info? 24).map (fun i => (i.zero, i.size, i.bytes)) = some (some (.int .i64 0), 1, 8) := by kernel_rfl
theorem made_row (w : World) (n : Nat) (t : TypeId) (e : Int) : ∃ u, (w.alloc (.cells (madeCells #[.int .i64 0] (n + 1)) t)).cell? ⟨w.heap.size, n, none⟩ = some u ∧ (w.alloc (.cells (madeCells #[.int .i64 0] (n + 1)) t)).frozen? ⟨w.heap.size, n, none⟩ = false ∧
    Row (w.alloc (.cells ((madeCells #[.int .i64 0] (n + 1)).setIfInBounds n (.int .i64 e)) t)) (some ⟨w.heap.size, 0, none⟩) ((List.replicate n (0 : Int) ++ [e]).map (Value.int .i64)) := by
  have hg : ∀ d, d < n + 1 → (madeCells #[Value.int .i64 0] (n + 1))[d]? = some (.int .i64 0) := fun d hd => by
    have := made_get (z := .int .i64 0) rfl (n + 1) d hd
    rwa [Nat.mul_one] at this
  have hb := Blk.new w t (madeCells #[Value.int .i64 0] (n + 1))
  refine ⟨_, (hb.cell n).trans (hg n (by omega)), hb.frozen n, fun _ => ⟨_, 0, rfl, fun i u hu => ?_⟩⟩
  refine ((Blk.new w t ((madeCells #[Value.int .i64 0] (n + 1)).setIfInBounds n (.int .i64 e))).cell _).trans ?_
  rw [Nat.zero_add]
  rw [List.getElem?_map, List.getElem?_append] at hu
  simp only [List.length_replicate] at hu
  by_cases h : i < n
  · rw [if_pos h, List.getElem?_replicate, if_pos h] at hu
    rw [Array.getElem?_setIfInBounds_ne (by omega), hg i (by omega)]
    exact hu
  · rw [if_neg h] at hu
    by_cases h2 : i = n
    · subst h2
      rw [Nat.sub_self] at hu
      rw [Array.getElem?_setIfInBounds_self, if_pos (lt_of_get (hg i (by omega)))]
      exact hu
    · rw [List.getElem?_eq_none (by simp; omega)] at hu
      cases hu

set_option maxHeartbeats 1000000 in
set_option maxRecDepth 100000 in
theorem traceAgrees_walk (A B : Option Addr) (cp cq : Nat) (raw res : List Int) (wh ev : Int) (w : World) (hr : Row w A (raw.map (Value.int .i64))) (hA : A = none → cp = 0) (hs : Row w B (res.map (Value.int .i64))) (hm : raw.length ≤ maxLen) (hm2 : res.length ≤ maxLen) :
    Calls Try.prog 3 #[.slice A raw.length cp, .slice B res.length cq, .int .i64 wh, .int .i64 ev] w fun e w' => e = .returned (.bool true) ∧ Fr [] w w' := by
  unfold maxLen at hm hm2
  obtain ⟨i0, hi0, hz0, hz1, hz2⟩ := info_parts errno_info
  have hu := umod_lt wh (show 0 < 60 by omega)
  generalize hue : umod wh 60 = n at hu
  have HUE := hide hue
  have hmk : ∀ W : World, (Instr.makeSlice 23 (.int .i64 ((n : Int) + 1)) (.int .i64 ((n : Int) + 1))).run Try.prog W = .ok (.slice (some ⟨W.heap.size, 0, none⟩) (n + 1) (n + 1)) (W.alloc (.cells (madeCells (Value.int .i64 0).cells ((n + 1) * 1)) 24)) := fun W => by
    have := run_make_rowN (P := Try.prog) 23 24 i0 (.int .i64 0) Try.underlying23 hi0 hz0 .i64 .i64 (n + 1) (n + 1) (Nat.le_refl _) (by rw [hz2]; omega) (by omega) W
    rw [hz1] at this
    exact this
  have HR := hide hr
  have HS := hide hs
  have HA := hide hA
  clear hr hs hA hi0 hz0 hz1 hz2 hue
  by_cases h20 : 20 < raw.length ∨ 80 < res.length
  · have hb : (decide ((20 : Int) < (raw.length : Int)) = true) ∨ (decide ((20 : Int) < (raw.length : Int)) = false ∧ decide ((80 : Int) < (res.length : Int)) = true) := by simp; omega
    clear h20 hmk
    rcases hb with hb | ⟨hb, hb2⟩
    all_goals
      go_enter Try.func3, Try.ntmps3
      go_wp2_with fail
      refine (awake30_any w).mono ?_
      rintro e w1 ⟨rfl, hfr⟩
      go_wp2
      go_ret
      exact ⟨rfl, hfr⟩
  · have hb : decide ((20 : Int) < (raw.length : Int)) = false := by simp; omega
    have hb2 : decide ((80 : Int) < (res.length : Int)) = false := by simp; omega
    have h80 : res.length ≤ 80 := by omega
    have h20' : raw.length ≤ 20 := by omega
    clear h20 hm hm2
    go_enter Try.func3, Try.ntmps3
    go_wp2_with fail
    refine (order_any A cp raw w HR.out (by omega)).mono ?_
    rintro e w1 ⟨v1, rfl, hown1, hfr1⟩
    obtain ⟨A1, c1, rfl, hA1, hrow1, -⟩ := own_slice hown1
    have HA1 := hide hA1
    have HR1 := hide hrow1
    have hlen := ordR_length raw
    generalize ordR raw = o at hlen HR1 ⊢
    have h7 : o.length ≤ 7 := by omega
    clear hlen hA1 hrow1 hown1
    go_wp2_with fail
    refine (mod_any wh 60 _ (by omega) (by omega)).mono ?_
    rintro e w2 ⟨rfl, rfl⟩
    rw [HUE.out]
    obtain ⟨u, hcu, hfu, hrow2⟩ := made_row w1 n 24 ev
    go_wp2_with fail
    have hf2 : Fr [] w (w1.alloc (.cells ((madeCells #[.int .i64 0] (n + 1)).setIfInBounds n (.int .i64 ev)) 24)) := hfr1.alloc _
    have hr12 := HR1.out.fr0 ((Fr.refl [] w1).alloc (.cells ((madeCells #[.int .i64 0] (n + 1)).setIfInBounds n (.int .i64 ev)) 24))
    generalize (w1.alloc (.cells ((madeCells #[.int .i64 0] (n + 1)).setIfInBounds n (.int .i64 ev)) 24)) = w2 at hf2 hrow2 hr12 ⊢
    obtain ⟨one, hone⟩ : ∃ one, one = List.replicate n (0 : Int) ++ [ev] := ⟨_, rfl⟩
    have hol : one.length = n + 1 := by rw [hone]; simp
    rw [← hone] at hrow2
    generalize (some ⟨w1.heap.size, 0, none⟩ : Option Addr) = A3 at hrow2 ⊢
    have hli : (toInts o).length = o.length := by simp [toInts]
    rw [← toInts_nv] at hr12
    rw [← hli, ← hol] at ⊢
    rw [← hli] at h7
    have h61 : one.length ≤ 61 := by omega
    generalize toInts o = lo at hr12 h7 ⊢
    have HR2 := hide hr12
    have HO2 := hide hrow2
    clear hcu hfu hrow2 hr12 hone hol hli HR1 hfr1 hmk hu HUE
    refine (trace_any A B cp cq raw res w2 (HR.out.fr0 hf2) HA.out (by omega) (HS.out.fr0 hf2) (by omega)).mono ?_
    rintro e w3 ⟨v3, rfl, hown3, hfr3⟩
    obtain ⟨T, hT⟩ : ∃ T, traceM raw res = T := ⟨_, rfl⟩
    have hTl := traceM_len raw res
    rw [hT] at hTl hown3
    obtain ⟨A4, c4, rfl, -, hrow4, -⟩ := own_slice hown3
    have hf3 := hf2.call hfr3
    have HR3 := hide (HR2.out.fr0 hfr3)
    have HO3 := hide (HO2.out.fr0 hfr3)
    have HT := hide hT
    have H4 := hide hrow4
    clear hown3 hfr3 HR2 HO2 hT hrow4 hf2
    go_wp2_with fail
    refine (rtrace_any A B cp cq raw res w3 (HR.out.fr0 hf3) (by omega) (HS.out.fr0 hf3) (by omega)).mono ?_
    rintro e w4 ⟨v5, rfl, hown5, hfr4⟩
    rw [HT.out] at hown5
    obtain ⟨A5, c5, rfl, -, hrow5, -⟩ := own_slice hown5
    have hf4 := hf3.call hfr4
    have HR4 := hide (HR3.out.fr0 hfr4)
    have HO4 := hide (HO3.out.fr0 hfr4)
    have H44 := hide (H4.out.fr0 hfr4)
    have H5 := hide hrow5
    clear hown5 hfr4 HR3 HO3 H4 hrow5 hf3
    go_wp2_with fail
    refine (equalOps_any A4 A5 c4 c5 T T w4 H44.out H5.out (by omega) (by omega)).mono ?_
    rintro e w5 ⟨rfl, hfr5⟩
    have hf5 := hf4.call hfr5
    have HR5 := hide (HR4.out.fr0 hfr5)
    have HO5 := hide (HO4.out.fr0 hfr5)
    rw [decide_eq_true (rfl : T = T)]
    clear hfr5 HR4 HO4 H44 H5 hf4 HT hTl
    go_wp2_with fail
    refine (trace_any A1 B c1 cq lo res w5 HR5.out HA1.out (by omega) (HS.out.fr0 hf5) (by omega)).mono ?_
    rintro e w6 ⟨v3, rfl, hown3, hfr3⟩
    obtain ⟨T1, hT⟩ : ∃ T, traceM lo res = T := ⟨_, rfl⟩
    have hTl := traceM_len lo res
    rw [hT] at hTl hown3
    obtain ⟨A6, c6, rfl, -, hrow4, -⟩ := own_slice hown3
    have hf6 := hf5.call hfr3
    have HR6 := hide (HR5.out.fr0 hfr3)
    have HO6 := hide (HO5.out.fr0 hfr3)
    have HT := hide hT
    have H4 := hide hrow4
    clear hown3 hfr3 HR5 HO5 hT hrow4 hf5
    go_wp2_with fail
    refine (rtrace_any A1 B c1 cq lo res w6 HR6.out (by omega) (HS.out.fr0 hf6) (by omega)).mono ?_
    rintro e w7 ⟨v5, rfl, hown5, hfr4⟩
    rw [HT.out] at hown5
    obtain ⟨A7, c7, rfl, -, hrow5, -⟩ := own_slice hown5
    have hf7 := hf6.call hfr4
    have HR7 := hide (HR6.out.fr0 hfr4)
    have HO7 := hide (HO6.out.fr0 hfr4)
    have H44 := hide (H4.out.fr0 hfr4)
    have H5 := hide hrow5
    clear hown5 hfr4 HR6 HO6 H4 hrow5 hf6
    go_wp2_with fail
    refine (equalOps_any A6 A7 c6 c7 T1 T1 w7 H44.out H5.out (by omega) (by omega)).mono ?_
    rintro e w8 ⟨rfl, hfr5⟩
    have hf8 := hf7.call hfr5
    have HR8 := hide (HR7.out.fr0 hfr5)
    have HO8 := hide (HO7.out.fr0 hfr5)
    rw [decide_eq_true (rfl : T1 = T1)]
    clear hfr5 HR7 HO7 H44 H5 hf7 HT hTl
    go_wp2_with fail
    refine (trace_any A1 A3 c1 _ lo one w8 HR8.out HA1.out (by omega) HO8.out (by omega)).mono ?_
    rintro e w9 ⟨v3, rfl, hown3, hfr3⟩
    obtain ⟨T2, hT⟩ : ∃ T, traceM lo one = T := ⟨_, rfl⟩
    have hTl := traceM_len lo one
    rw [hT] at hTl hown3
    obtain ⟨A8, c8, rfl, -, hrow4, -⟩ := own_slice hown3
    have hf9 := hf8.call hfr3
    have HR9 := hide (HR8.out.fr0 hfr3)
    have HO9 := hide (HO8.out.fr0 hfr3)
    have HT := hide hT
    have H4 := hide hrow4
    clear hown3 hfr3 HR8 HO8 hT hrow4 hf8
    go_wp2_with fail
    refine (rtrace_any A1 A3 c1 _ lo one w9 HR9.out (by omega) HO9.out (by omega)).mono ?_
    rintro e w10 ⟨v5, rfl, hown5, hfr4⟩
    rw [HT.out] at hown5
    obtain ⟨A9, c9, rfl, -, hrow5, -⟩ := own_slice hown5
    have hf10 := hf9.call hfr4
    have H44 := hide (H4.out.fr0 hfr4)
    have H5 := hide hrow5
    clear hown5 hfr4 HR9 HO9 H4 hrow5 hf9
    go_wp2_with fail
    refine (equalOps_any A8 A9 c8 c9 T2 T2 w10 H44.out H5.out (by omega) (by omega)).mono ?_
    rintro e w11 ⟨rfl, hfr5⟩
    have hf11 := hf10.call hfr5
    rw [decide_eq_true (rfl : T2 = T2)]
    clear hfr5 H44 H5 hf10 HT hTl
    go_wp2_with fail
    refine (awake30_any _).mono ?_
    rintro e w12 ⟨rfl, hfr12⟩
    go_wp2
    go_ret
    exact ⟨rfl, hf11.call hfr12⟩
end Go.Proofs.Ytgbkgiglagfciaa
