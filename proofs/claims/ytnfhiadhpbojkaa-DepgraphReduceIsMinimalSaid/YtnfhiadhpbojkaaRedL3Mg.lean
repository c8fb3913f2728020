/- The law DepgraphReduceIsMinimal, walked. (Written by a program.) -/
import Derived.Test.YtnfhiadhpbojkaaRedP3Mg
import Derived.Test.YtnfhiadhpbojkaaRedL1Mg
import Derived.Test.YtnfhiadhpbojkaaGraL9Mg
import Derived.Test.YtnfhiadhpbojkaaTailT
import Derived.IntWalk
import Derived.Deep.Cut
namespace Go.Proofs.Ytnfhiadhpbojkaa
open Go.RowKit

theorem pcs_append (a b : List (Int × Int)) : pcs (a ++ b) = pcs a ++ pcs b := by simp [pcs]
theorem pcs_one (l : List (Int × Int)) : ∀ u ∈ pcs l, u.oneCell' = true := by
  intro u hu
  obtain ⟨p, -, h⟩ := List.mem_flatMap.1 hu
  simp [pc] at h
  rcases h with rfl | rfl <;> rfl
theorem row_take {w : World} {g : Nat} {l : List (Int × Int)} (h : Row w (some ⟨g, 0, none⟩) (pcs l)) (k : Nat) : Row w (some ⟨g, 0, none⟩) (pcs (l.take k)) := fun _ => by
  refine ⟨g, 0, rfl, fun i u hu => ?_⟩
  have h1 : (pcs l)[i]? = some u := by
    rw [← List.take_append_drop k l, pcs_append, List.getElem?_append_left (List.getElem?_eq_some_iff.1 hu).1]
    exact hu
  obtain ⟨ob, oo, e, hc⟩ := h.at_ h1
  cases e
  exact hc
theorem row_drop {w : World} {g : Nat} {l : List (Int × Int)} (h : Row w (some ⟨g, 0, none⟩) (pcs l)) (k : Nat) (hk : k ≤ l.length) : Row w (some ⟨g, k * 2, none⟩) (pcs (l.drop k)) := fun _ => by
  refine ⟨g, k * 2, rfl, fun i u hu => ?_⟩
  have h1 : (pcs l)[k * 2 + i]? = some u := by
    have h2 : (pcs (l.take k)).length = k * 2 := by rw [pcs_length, List.length_take]; omega
    have h3 : pcs l = pcs (l.take k) ++ pcs (l.drop k) := by rw [← pcs_append, List.take_append_drop]
    rw [h3, List.getElem?_append_right (by omega), h2, show k * 2 + i - k * 2 = i by omega]
    exact hu
  obtain ⟨ob, oo, e, hc⟩ := h.at_ h1
  cases e
  simpa using hc
def MnCut (w5 : World) (r : List (Int × Int)) (k : Nat) (s19 : Value) (wx : World) : Prop := ∃ A c, s19 = .slice A (r.take k ++ r.drop (k + 1)).length c ∧ Row wx A (pcs (r.take k ++ r.drop (k + 1))) ∧ Fr [] w5 wx
set_option maxHeartbeats 8000000 in
set_option maxRecDepth 100000 in
theorem minimal_walk (n : Int) (A : Option Addr) (cp : Nat) (raw : List (Int × Int)) (x y : Int) (w : World) (hr : Row w A (pcs raw)) (hm : raw.length ≤ maxLen) :
    Calls Try.prog 13 #[.int .i64 n, .slice A raw.length cp, .int .i64 x, .int .i64 y] w fun e w' => e = .returned (.bool true) ∧ Fr [] w w' := by
  unfold maxLen at hm
  obtain ⟨i0, hi0, hz0, hz1, hz2⟩ := info_parts link_info2
  have HI0 := hide (And.intro hi0 (And.intro hz0 (And.intro hz1 hz2)))
  clear hi0 hz0 hz1 hz2
  have HR := hide hr
  clear hr
  by_cases h40 : 40 < raw.length
  · have hb : decide ((40 : Int) < (raw.length : Int)) = true := by simp; omega
    go_enter Try.func13, Try.ntmps13
    go_wp2_with fail
    refine (awake24_any w).mono ?_
    rintro e w1 ⟨rfl, hfr⟩
    go_wp2
    go_ret
    exact ⟨rfl, hfr⟩
  · have hb : decide ((40 : Int) < (raw.length : Int)) = false := by simp; omega
    have h40' : raw.length ≤ 40 := by omega
    clear h40 hm
    go_enter Try.func13, Try.ntmps13
    go_wp2_with fail
    refine (graph_any n A cp raw true w HR.out (by omega)).mono ?_
    rintro e w1 ⟨v1, rfl, hown1, hf1⟩
    obtain ⟨A1, c1, rfl, -, hrow1, -⟩ := own_slice hown1
    have HGL := hide ((graphM_ok n raw true).links (by have := gNodes_lt n; omega))
    have HAC := hide (graphM_ok n raw true).acyc
    have hgl := (graphM_ok n raw true).len
    have hN := gNodes_lt n
    generalize graphM n raw true = L at hgl hrow1 HAC HGL ⊢
    generalize gNodes n = N at hN HGL ⊢
    have hll : (ofNs L).length = L.length := ofNs_length L
    have hgl' : (ofNs L).length ≤ 40 := by omega
    have HG := hide hrow1
    have HLT : Hid (∀ p ∈ L, p.1 < N ∧ p.2 < N) := hide (by have := toNs_lt HGL.out.1.2.2.2; rwa [toNs_ofNs] at this)
    have HND : Hid L.Nodup := hide (by have := toNs_nodup HGL.out.1.2.2.2 HGL.out.2.1; rwa [toNs_ofNs] at this)
    have HB1 := hide HGL.out.2.2
    have HMI := hide (min_ok HLT.out HAC.out HND.out HB1.out)
    generalize sortL (keptTo N L N) = r at HMI
    have hrl := HMI.out.len
    have hnn : N * N ≤ 14 * 14 := Nat.mul_le_mul (by omega) (by omega)
    clear hrow1 hown1 HGL
    have hq := reduce_any (N : Int) A1 c1 (ofNs L) w1 HG.out (by omega)
    rw [hll] at hq
    go_wp2_with fail
    refine hq.mono ?_
    clear hq
    rintro e w2 ⟨v2, rfl, hown2, hf2⟩
    rw [HMI.out.red] at hown2 ⊢
    dsimp only at hown2 ⊢
    obtain ⟨A2, c2, rfl, -, hrow2, -⟩ := own_slice hown2
    have HOW2 := hide hown2
    have H2 := hide hrow2
    have hw2 := hf1.call hf2
    have HG2 := hide (HG.out.fr0 hf2)
    clear hown2 hrow2 HG
    by_cases hN0 : N = 0
    · have hr0 : r.length = 0 := by subst hN0; omega
      have e1 : ((N : Int) == 0) = true := by simp [hN0]
      have e2 : ((r.length : Int) == 0) = true := by simp [hr0]
      clear hrl hnn
      go_wp2_with fail
      refine (awake24_any w2).mono ?_
      rintro e w3 ⟨rfl, hf3⟩
      go_wp2
      go_ret
      exact ⟨rfl, hw2.call hf3⟩
    · have hNp : 0 < N := by omega
      have e1 : ((N : Int) == 0) = false := by simp [hN0]
      clear hN0
      go_wp2_with fail
      refine (mod_any x N _ hNp (by omega)).mono ?_
      rintro e w3 ⟨rfl, rfl⟩
      have hvl := umod_lt x hNp
      generalize umod x N = v at hvl ⊢
      have HCL := hide (HMI.out.clos (by omega) HLT.out HAC.out HB1.out hvl)
      have hcl := closM_len false (N : Int) (ofNs L) [(v : Int)]
      have hq := suppliers_any (N : Int) A1 (some ⟨w2.heap.size, 0, none⟩) c1 1 (ofNs L) [(v : Int)] _ (HG2.out.fr0 ((Fr.refl [] w2).alloc (.cells #[.int .i64 (v : Int)] 3))) (row_one w2 _ _) (by omega) (by simp)
      rw [hll] at hq
      go_wp2_with fail
      refine hq.mono ?_
      clear hq
      rintro e w3 ⟨v3, rfl, hown3, hf3⟩
      rw [HCL.out.2]
      obtain ⟨A3, c3, rfl, -, hrow3, -⟩ := own_slice hown3
      have H3 := hide hrow3
      have g3 : Fr [] w2 w3 := ((Fr.refl [] w2).alloc _).call hf3
      clear hown3 hrow3 hf3
      have hq := suppliers_any (N : Int) A2 (some ⟨w3.heap.size, 0, none⟩) c2 1 r [(v : Int)] _ ((H2.out.fr0 g3).fr0 ((Fr.refl [] w3).alloc (.cells #[.int .i64 (v : Int)] 3))) (row_one w3 _ _) (by omega) (by simp)
      go_wp2_with fail
      refine hq.mono ?_
      clear hq
      rintro e w4 ⟨v4, rfl, hown4, hf4⟩
      rw [HCL.out.1] at hown4 ⊢
      rw [HCL.out.2]
      obtain ⟨A4, c4, rfl, -, hrow4, -⟩ := own_slice hown4
      have H4 := hide hrow4
      have g34 : Fr [] w3 w4 := ((Fr.refl [] w3).alloc _).call hf4
      have g4 := g3.trans g34
      clear hown4 hrow4 hf4
      generalize (closM false (N : Int) (ofNs L) [(v : Int)]).1 = CL at H3 H4 hcl ⊢
      go_wp2_with fail
      refine (equalNats_any A3 A4 c3 c4 CL CL w4 (H3.out.fr0 g34) H4.out (by omega) (by omega)).mono ?_
      rintro e w5 ⟨rfl, hf5⟩
      rw [decide_eq_true rfl]
      have g5 := g4.call hf5
      have H25 := hide (H2.out.fr0 g5)
      have HOW5 := hide (own_fr HOW2.out g5 (fun _ _ => by simp))
      have hw5 := hw2.call g5
      clear H3 H4 H2 HOW2 HG2 g3 g34 g4 hf5
      by_cases hr0 : r.length = 0
      · have hL0 : L.length = 0 := by
          rw [HMI.out.none HLT.out HAC.out (List.length_eq_zero_iff.1 hr0)]
          rfl
        have e2 : ((r.length : Int) == 0) = true := by simp [hr0]
        have e3 : ((L.length : Int) == 0) = true := by simp [hL0]
        clear hr0 hL0
        go_wp2_with fail
        refine (awake24_any w5).mono ?_
        rintro e w6 ⟨rfl, hf6⟩
        go_wp2
        go_ret
        exact ⟨rfl, hw5.call hf6⟩
      · have hrp : 0 < r.length := by omega
        have e2 : ((r.length : Int) == 0) = false := by rw [beq_eq_false_iff_ne]; omega
        obtain ⟨g2, rfl, -, hg2l, -, -⟩ := own_at HOW5.out hrp
        have hcap : r.length ≤ c2 := by
          rcases HOW5.out.2 with ⟨h0, -⟩ | ⟨_, cap, cur, hv, -, -, hnc, -⟩
          · cases h0
          · injection hv with _ _ h3
            omega
        clear hr0
        go_wp2_with fail
        refine (mod_any y r.length _ hrp (by omega)).mono ?_
        rintro e w6 ⟨rfl, rfl⟩
        have hkl := umod_lt y hrp
        generalize umod y r.length = k at hkl ⊢
        obtain ⟨p, hp⟩ : ∃ p, r[k]? = some p := ⟨_, List.getElem?_eq_getElem hkl⟩
        have HLA := hide (HMI.out.last (by omega) HLT.out HAC.out hp)
        have HP := hide hp
        have hki : (k : Int) < (r.length : Int) := by omega
        have hk0 : (k : Int) ≤ (r.length : Int) := by omega
        have hkc : (k : Int) ≤ (c2 : Int) := by omega
        have hrc : (r.length : Int) ≤ (c2 : Int) := by omega
        clear hp
        go_upto_region 15 with (fail)
        obtain ⟨k1, hk1⟩ : ∃ k1, k1 = k + 1 := ⟨_, rfl⟩
        have hkw : IntKind.i64.wrap ((k : Int) + 1) = (k1 : Int) := by rw [IntWalk.i64_in _ (by omega)]; omega
        have hk2 : (k1 : Int) ≤ (r.length : Int) := by omega
        have hk3 : (k1 : Int) ≤ (c2 : Int) := by omega
        have n1 : k ≤ k1 := by omega
        have n2 : k1 ≤ r.length := by omega
        have n3 : k1 ≤ c2 := by omega
        have n4 : k ≤ c2 := by omega
        have n5 : (k : Int) ≤ (k1 : Int) := by omega
        have HDR : Hid (Row w5 (if c2 = k1 then some ⟨g2, 0, none⟩ else some ⟨g2, k1 * 2, none⟩) (pcs (r.drop k1))) := hide (by
          split
          · rw [List.drop_eq_nil_of_le (by omega)]
            exact Row.nil _ _
          · exact row_drop H25.out k1 (by omega))
        have HTR := hide (row_take H25.out k)
        have htk : (r.take k).length = k := by rw [List.length_take]; omega
        have hdk : (r.drop k1).length = r.length - k1 := List.length_drop
        have HK1 := hide hk1
        clear hk1
        refine wp_region_T (fun _ => True) 10 (by kernel_rfl) ?_
        have hS : (fun _ : World => True) { w5 with drawn := w5.drawn + 1 } := trivial
        refine wpAnyT_take (i := 1) (v := ?v1) rfl (by kernel_rfl) (by kernel_rfl) (fun _ _ _ h => h) (Or.inl ⟨by rfl, ?hy1⟩) hS ?rest1
        case hy1 =>
          intro wz hSw
          have s0 := hSw
          go_simp
          try rfl
        try simp only [Act.put, List.setIfInBounds_toArray, List.set_cons_zero, List.set_cons_succ, List.getElem_toArray, List.getElem_cons_zero, List.getElem_cons_succ]
        refine wpAnyT_take (i := 2) (v := ?v2) rfl (by kernel_rfl) (by kernel_rfl) (fun _ _ _ h => h) (Or.inl ⟨by rfl, ?hy2⟩) hS ?rest2
        case hy2 =>
          intro wz hSw
          have s0 := hSw
          go_simp
          try rfl
        try simp only [Act.put, List.setIfInBounds_toArray, List.set_cons_zero, List.set_cons_succ, List.getElem_toArray, List.getElem_cons_zero, List.getElem_cons_succ]
        refine wpAnyT_take (i := 3) (v := ?v3) rfl (by kernel_rfl) (by kernel_rfl) (fun _ _ _ h => h) (Or.inl ⟨by rfl, ?hy3⟩) hS ?rest3
        case hy3 =>
          intro wz hSw
          have s0 := hSw
          go_simp
          try rfl
        try simp only [Act.put, List.setIfInBounds_toArray, List.set_cons_zero, List.set_cons_succ, List.getElem_toArray, List.getElem_cons_zero, List.getElem_cons_succ]
        refine wpAnyT_take (i := 5) (v := ?v5) rfl (by kernel_rfl) (by kernel_rfl) (fun _ _ _ h => h) (Or.inl ⟨by rfl, ?hy5⟩) hS ?rest5
        case hy5 =>
          intro wz hSw
          have s0 := hSw
          go_simp
          try rfl
        try simp only [Act.put, List.setIfInBounds_toArray, List.set_cons_zero, List.set_cons_succ, List.getElem_toArray, List.getElem_cons_zero, List.getElem_cons_succ]
        refine wpAnyT_take (i := 6) (v := ?v6) rfl (by kernel_rfl) (by kernel_rfl) (fun _ _ _ h => h) (Or.inl ⟨by rfl, ?hy6⟩) hS ?rest6
        case hy6 =>
          intro wz hSw
          have s0 := hSw
          go_simp
          try rfl
        try simp only [Act.put, List.setIfInBounds_toArray, List.set_cons_zero, List.set_cons_succ, List.getElem_toArray, List.getElem_cons_zero, List.getElem_cons_succ]
        refine wpAnyT_take (i := 7) (v := ?v7) rfl (by kernel_rfl) (by kernel_rfl) (fun _ _ _ h => h) (Or.inl ⟨by rfl, ?hy7⟩) hS ?rest7
        case hy7 =>
          intro wz hSw
          have s0 := hSw
          go_simp
          try rfl
        try simp only [Act.put, List.setIfInBounds_toArray, List.set_cons_zero, List.set_cons_succ, List.getElem_toArray, List.getElem_cons_zero, List.getElem_cons_succ]
        refine wpAnyT_take (i := 8) (v := ?v8) rfl (by kernel_rfl) (by kernel_rfl) (fun _ _ _ h => h) (Or.inl ⟨by rfl, ?hy8⟩) hS ?rest8
        case hy8 =>
          intro wz hSw
          have s0 := hSw
          go_simp
          try rfl
        try simp only [Act.put, List.setIfInBounds_toArray, List.set_cons_zero, List.set_cons_succ, List.getElem_toArray, List.getElem_cons_zero, List.getElem_cons_succ]
            clear hS
        have hown0 := own_new w5 (base := w5.heap.size) (e := 34) (size := 2) (n := 0) (c := 0) (cs := #[]) (Nat.le_refl _) rfl (by omega) (by simp [maxLen])
        have hown1 : (w5.alloc (.cells #[] 34)).ownsRow w5.heap.size 34 2 (.slice (some ⟨w5.heap.size, 0, none⟩) 0 0) 0 [] := by simpa using hown0
        have HOWN0 := hide (own_fr hown1 (Fr.refl [] _).drew (fun _ _ => by simp))
        have hf67 : Fr [] w5 ((w5.alloc (.cells #[] 34)).drew) := ((Fr.refl _ _).alloc _).drew
        clear hown0 hown1
        refine wpAnyT_one (i := 0) (by kernel_rfl) rfl (by rfl) (fun K hK => ?_)
        go_simp
        refine hK _ _ (.inr trivial) ?_
        try simp only [Act.put, List.setIfInBounds_toArray, List.set_cons_zero, List.set_cons_succ, List.getElem_toArray, List.getElem_cons_zero, List.getElem_cons_succ]
        refine wpAnyT_one (i := 4) (by kernel_rfl) rfl (by rfl) (fun K2 hK2 => ?_)
        refine wp_append_row _ (.tmp 101) (.tmp 104) 22 (by rfl) w5.heap.size 34 i0 (.agg #[.int .i64 0, .int .i64 0]) 2 16 Try.underlying22 HI0.out.1 HI0.out.2.1 HI0.out.2.2.1 HI0.out.2.2.2 rfl (by omega) (.slice (some ⟨w5.heap.size, 0, none⟩) 0 0) 0 [] (by rfl) HOWN0.out (some ⟨g2, 0, none⟩) k _ (pcs (r.take k)) (by rfl) (by rw [pcs_length, htk]) (HTR.out.fr0 hf67) (pcs_one _) (by simp only [maxLen]; omega) (by omega) hf67.size ?_
        intro v7 w7 hown7 hg7 hat7
        rw [Nat.zero_add, List.nil_append] at hown7
        obtain ⟨A7, c7, rfl, -, -, -⟩ := own_slice hown7
        have hf7 : Fr [] w5 w7 := hf67.grown hg7 (fun y hy => .inr (own_block HOWN0.out hy).1)
        refine hK2 _ _ (.inr trivial) ?_
        try simp only [Act.put, List.setIfInBounds_toArray, List.set_cons_zero, List.set_cons_succ, List.getElem_toArray, List.getElem_cons_zero, List.getElem_cons_succ]
        refine wpAnyT_one (i := 9) (by kernel_rfl) rfl (by rfl) (fun K3 hK3 => ?_)
        refine wp_append_row _ (.tmp 105) (.tmp 109) 22 (by rfl) w5.heap.size 34 i0 (.agg #[.int .i64 0, .int .i64 0]) 2 16 Try.underlying22 HI0.out.1 HI0.out.2.1 HI0.out.2.2.1 HI0.out.2.2.2 rfl (by omega) (.slice A7 k c7) k (pcs (r.take k)) (by rfl) hown7 _ (r.length - k1) _ (pcs (r.drop k1)) (by rfl) (by rw [pcs_length, hdk]) (HDR.out.fr0 hf7) (pcs_one _) (by simp only [maxLen]; omega) (by omega) hf7.size ?_
        intro v8 w8 hown8 hg8 hat8
        rw [← pcs_append] at hown8
        obtain ⟨A8, c8, rfl, -, hrow8, -⟩ := own_slice hown8
        have hf8 : Fr [] w5 w8 := hf7.grown hg8 (fun y hy => .inr (own_block hown7 hy).1)
        refine hK3 _ _ (.inr trivial) ?_
        try simp only [Act.put, List.setIfInBounds_toArray, List.set_cons_zero, List.set_cons_succ, List.getElem_toArray, List.getElem_cons_zero, List.getElem_cons_succ]
        refine wpAnyT_one (i := 10) (by kernel_rfl) rfl (by rfl) (fun K4 hK4 => ?_)
        go_simp
        refine hK4 _ _ (.inl rfl) ?_
        try simp only [Act.put, List.setIfInBounds_toArray, List.set_cons_zero, List.set_cons_succ, List.getElem_toArray, List.getElem_cons_zero, List.getElem_cons_succ]
        refine wpAnyT_done (by kernel_rfl) ?_ _
        generalize (if c2 = k1 then (some ⟨g2, 0, none⟩ : Option Addr) else some ⟨g2, k1 * 2, none⟩) = AD
        have HK8 := hide hrow8
        have hlen8 : (r.take k ++ r.drop k1).length = k + (r.length - k1) := by rw [List.length_append, htk, hdk]
        have hks : k + (r.length - k1) ≤ 200 := by omega
        rw [← HK1.out] at HLA
        generalize r.take k ++ r.drop k1 = U at HK8 hlen8 HLA
        generalize k + (r.length - k1) = nu at hlen8 hks ⊢
        subst hlen8
        have H28 := hide (H25.out.fr0 hf8)
        have hw8 := hw5.call hf8
        clear hown7 hg7 hat7 hown8 hg8 hat8 hrow8 HOWN0 hf67 hf7 HDR HTR H25 htk hdk hkw hk2 hk3
        obtain ⟨ob, oo, eo, q0, q1⟩ := H28.out.link HP.out
        cases eo
        obtain ⟨pc0, ps0⟩ := p
        simp only at q0 q1 HLA
        have hcu := closM_len false (N : Int) U [pc0]
        have hcr := closM_len false (N : Int) r [pc0]
        rw [Nat.zero_add] at q0 q1
        have hra := row_one w8 3 (.int .i64 pc0)
        have hfa : Fr [] w8 (w8.alloc (.cells #[.int .i64 pc0] 3)) := (Fr.refl _ _).alloc _
        have hq := suppliers_any (N : Int) (some ⟨g2, 0, none⟩) (some ⟨w8.heap.size, 0, none⟩) c2 1 r [pc0] _ (H28.out.fr0 hfa) hra (by omega) (by simp)
        have HRA := hide hra
        have HU8 := hide (HK8.out.fr0 hfa)
        have hwa := hw8.call hfa
        have q1a := hfa.cell q1 (by simp)
        have HQA := hide q1a
        clear hra q1a q1 hfa
        go_wp2_with fail
        clear q0
        generalize w8.alloc (.cells #[.int .i64 pc0] 3) = wa at HRA HU8 hwa HQA hq ⊢
        generalize w8.heap.size = gc at HRA hq ⊢
        refine hq.mono ?_
        clear hq
        rintro e w9 ⟨v9, rfl, hown9, hf9⟩
        rw [HLA.out.1]
        obtain ⟨A9, c9, rfl, -, hrow9, -⟩ := own_slice hown9
        have H9 := hide hrow9
        clear hown9 hrow9
        have hq := suppliers_any (N : Int) A8 (some ⟨gc, 0, none⟩) c8 1 U [pc0] w9 (HU8.out.fr0 hf9) (HRA.out.fr0 hf9) (by omega) (by simp)
        go_wp2_with fail
        refine hq.mono ?_
        clear hq
        rintro e w10 ⟨v10, rfl, hown10, hf10⟩
        rw [HLA.out.2.2.1]
        obtain ⟨A10, c10, rfl, -, hrow10, -⟩ := own_slice hown10
        have H10 := hide hrow10
        have H910 := hide (H9.out.fr0 hf10)
        have hf910 := hf9.call hf10
        have hw10 := hwa.call hf910
        have q1 := hf910.cell HQA.out (by simp)
        have hm1 := HLA.out.2.1
        have hm2 := HLA.out.2.2.2
        clear hown10 hrow10 H9 HLA
        generalize (closM false (N : Int) r [pc0]).1 = C1 at H910 hm1 hcr ⊢
        generalize (closM false (N : Int) U [pc0]).1 = C2 at H10 hm2 hcu ⊢
        have hce : ∀ l : List Nat, (l.map Int.ofNat).map (Value.int .i64) = l.map nv := fun l => by rw [List.map_map]; rfl
        have hq1 := contains24_any A9 c9 (C1.map Int.ofNat) ps0 w10 (by rw [hce]; exact H910.out) (by rw [List.length_map]; omega)
        rw [List.length_map, decide_eq_true hm1] at hq1
        have hq2 := contains24_any A10 c10 (C2.map Int.ofNat) ps0 w10 (by rw [hce]; exact H10.out) (by rw [List.length_map]; omega)
        rw [List.length_map, decide_eq_false hm2] at hq2
        have HQ1 := hide hq1
        have HQ2 := hide hq2
        clear hq1 hq2 hm1 hm2 hce
        go_wp2_with fail
        refine HQ1.out.mono ?_
        rintro e w11 ⟨rfl, rfl⟩
        go_wp2_with fail
        refine HQ2.out.mono ?_
        rintro e w11 ⟨rfl, rfl⟩
        go_wp2_with fail
        refine (awake24_any w10).mono ?_
        rintro e w11 ⟨rfl, hf11⟩
        go_wp2
        go_ret
        exact ⟨rfl, hw10.call hf11⟩
end Go.Proofs.Ytnfhiadhpbojkaa

