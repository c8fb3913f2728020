/- Walks over the reference of layer 24: closure, Suppliers, Consumers. (Written by a program: both ways alike.) -/
import Derived.Test.YtnfhiadhpbojkaaMgDepgraphMinimal5
import Derived.Test.YtnfhiadhpbojkaaGraW11Mg
import Derived.Test.YtnfhiadhpbojkaaGraM10Mg
namespace Go.Proofs.Ytnfhiadhpbojkaa
open Go.RowKit

def RcRel1 (w1 : World) (ig N : Nat) (of : List Int) (m : Nat) (i : Value) (wr : World) : Prop :=
  ∃ k : Nat, k ≤ of.length ∧ i = .int .i64 k ∧ (∀ x ∈ of.take k, 0 ≤ x ∧ x < (N : Int)) ∧ FA wr ig 4 bv N (fun u => decide (u ∈ (of.take k).map Int.toNat)) ∧ Fr [] w1 wr ∧ m = of.length - k
def RcRel2 (w1 : World) (ig N : Nat) (K : List (Nat × Nat)) (fn : List Nat) (m : Nat) (i : Value) (wr : World) : Prop :=
  ∃ k : Nat, k ≤ N ∧ i = .int .i64 k ∧ FA wr ig 4 bv N (iterT K k (fun u => decide (u ∈ fn))) ∧ Fr [] w1 wr ∧ m = N - k
def RcRel3 (w1 : World) (ig N : Nat) (K : List (Nat × Nat)) (R0 : Nat → Bool) (n : Nat) (m : Nat) (i : Value) (wr : World) : Prop :=
  ∃ k : Nat, k ≤ n ∧ i = .int .i64 k ∧ FA wr ig 4 bv N ((K.take k).foldl tStep R0) ∧ Fr [] w1 wr ∧ m = n - k

set_option maxHeartbeats 4000000 in
theorem rclosure_false (n : Int) (A B : Option Addr) (cp cq : Nat) (l : List (Int × Int)) (of : List Int) (w : World) (hr : Row w A (pcs l)) (hb : Row w B (of.map (Value.int .i64))) (hm : l.length ≤ 4096) (ho : of.length ≤ 4096) :
    Calls Try.prog 47 #[.int .i64 n, .slice A l.length cp, .slice B of.length cq, .bool true] w (ClosRet w false n l of) := by
  obtain ⟨i0, hi0, hz0, hz1, hz2⟩ := info_parts int_info1
  have HI := hide (And.intro hi0 (And.intro hz0 (And.intro hz1 hz2)))
  have HR := hide hr
  have HB := hide hb
  clear hr hb hi0 hz0 hz1 hz2
  go_enter Try.func47, Try.ntmps47
  go_wp2_with fail
  refine (rbasic_any n A cp l w HR.out hm).mono ?_
  rintro e w1 ⟨rfl, hf1⟩
  by_cases hb : basicM n l = 0
  · obtain ⟨hok, hnd⟩ := basicM_zero hb
    obtain ⟨N, rfl⟩ := Int.eq_ofNat_of_zero_le hok.1
    rw [hb]
    have HBA := hide hb
    have hN : N ≤ 128 := by have := hok.2.1; omega
    have hl1 : l.length ≤ 1024 := hok.2.2.1
    have HOK := hide hok
    have HLT := hide (ori_lt (cons := false) (toNs_lt hok.2.2.2))
    have hmk := make_bools N N (Nat.le_refl _) (by omega)
    have hnew := FA.new w1 4 bv false N
    have hfr0 : Fr [] w1 (w1.alloc (.cells (Array.replicate N (.bool false)) 4)) := (Fr.refl _ _).alloc _
    clear hb hok hnd
    go_wp2
    generalize (w1.alloc (.cells (Array.replicate N (.bool false)) 4)) = w2 at hnew hfr0 ⊢
    obtain ⟨ig, hig⟩ : ∃ ig, ig = w1.heap.size := ⟨_, rfl⟩
    have hiw : w1.heap.size ≤ ig := by omega
    rw [← hig] at hnew ⊢
    clear hig hmk
    go_loopg [12] of.length (fun m i wr => RcRel1 w1 ig N of m i wr)
    case atStart => exact ⟨0, by omega, rfl, by simp, hnew.congr (fun u _ => by simp), hfr0, rfl⟩
    case round =>
      clear hnew hfr0
      obtain ⟨k, hk, rfl, hall, hfa, hfr, hmm⟩ := hrel
      have HM := hide hmm
      have HALL := hide hall
      have HFA := hide hfa
      clear hmm hall hfa
      have hfw := hf1.call hfr
      by_cases hlt : k < of.length
      · obtain ⟨x, hx⟩ : ∃ x, of[k]? = some x := ⟨_, List.getElem?_eq_getElem hlt⟩
        obtain ⟨ob, oo, e, c1⟩ := (HB.out.fr0 hfw).int hx
        subst e
        have hkl : (k : Int) < (of.length : Int) := by omega
        have HX := hide hx
        clear hx
        by_cases hin : 0 ≤ x ∧ x < (N : Int)
        · obtain ⟨h1, h2⟩ := hin
          obtain ⟨x, rfl⟩ := Int.eq_ofNat_of_zero_le h1
          have hc1 := HFA.out.cell (i := x) (by omega)
          have hc2 := HFA.out.frozen x
          go_wp2
          go_roundg (of.length - (k + 1))
          case measure => rw [HM.out]; omega
          case rel =>
            refine ⟨k + 1, by omega, by go_num, fun y hy => ?_, (HFA.out.set_ x true).congr (fun u _ => ?_), hfr.set (.inr hiw) _, rfl⟩
            · rw [take_succ_some HX.out] at hy
              rcases List.mem_append.1 hy with h | h
              · exact HALL.out y h
              · rw [List.mem_singleton.1 h]; exact ⟨h1, h2⟩
            · rw [take_succ_some HX.out, List.map_append]
              by_cases e : u = x <;> simp [e]
        · have hno : ¬ ∀ y ∈ of, 0 ≤ y ∧ y < (N : Int) := fun h => hin (h x (List.mem_of_getElem? HX.out))
          have HM1 := hide (closM_out (cons := false) HBA.out hno)
          have hway : x < 0 ∨ (0 ≤ x ∧ (N : Int) ≤ x) := by omega
          clear hno hin
          rcases hway with h1 | ⟨h1, h2⟩
          all_goals
            go_wp2
            go_ret2
            exact ⟨.slice none 0 0, by rw [HM1.out]; rfl, by rw [HM1.out]; exact own_nil _ _ _ _, hfw⟩
      · have hkl : ¬ (k : Int) < (of.length : Int) := by omega
        have hall := HALL.out
        have hfa := HFA.out
        rw [List.take_of_length_le (by omega)] at hall hfa
        have HM1 := hide (closM_ok (cons := false) HBA.out hall)
        have hofN : ∀ u ∈ of.map Int.toNat, u < N := fun u hu => by
          obtain ⟨y, hy, rfl⟩ := List.mem_map.1 hu
          have := hall y hy
          omega
        have HRE := hide (iter_reach HLT.out hofN)
        obtain ⟨L, hL⟩ : ∃ L, L = toNs l := ⟨_, rfl⟩
        have hLl : L.length = l.length := by rw [hL]; simp [toNs]
        rw [← hL] at HRE HM1 HLT
        generalize of.map Int.toNat = fn at hfa HRE HM1
        have HF0 := hide hfa
        have HL := hide hL
        have HLL := hide hLl
        clear HALL HM hall hofN hfa HFA hL hLl
        obtain ⟨K, hK⟩ : ∃ K, K = ori false L := ⟨_, rfl⟩
        rw [← hK] at HRE HM1
        have HKK := hide hK
        clear hK
        go_wp2
        go_loopg [13] N (fun m i wr => RcRel2 w1 ig N K fn m i wr)
        case atStart => exact ⟨0, by omega, rfl, HF0.out, hfr, rfl⟩
        case round =>
          clear HF0 hfr hfw
          obtain ⟨t, ht, rfl, hfa, hfr, hmm⟩ := hrel
          have HM := hide hmm
          have HFA := hide hfa
          clear hmm hfa
          by_cases hlt2 : t < N
          · have htl : (t : Int) < (N : Int) := by omega
            have hstep : iterT K (t + 1) (fun u => decide (u ∈ fn)) = K.foldl tStep (iterT K t (fun u => decide (u ∈ fn))) := rfl
            generalize iterT K t (fun u => decide (u ∈ fn)) = R0 at hstep HFA
            have HSTEP := hide hstep
            clear hstep
            go_wp2
            go_loopg [14] l.length (fun m i wr => RcRel3 w1 ig N K R0 l.length m i wr)
            case atStart => exact ⟨0, by omega, rfl, HFA.out, hfr, rfl⟩
            case round =>
              clear HFA hfr
              obtain ⟨j, hj, rfl, hfa, hfr, hmm⟩ := hrel
              have HM2 := hide hmm
              have HFA := hide hfa
              clear hmm hfa
              by_cases hlt3 : j < l.length
              · obtain ⟨p, hp⟩ : ∃ p, l[j]? = some p := ⟨_, List.getElem?_eq_getElem hlt3⟩
                obtain ⟨ob, oo, e, c1, c2⟩ := (HR.out.fr0 (hf1.call hfr)).link hp
                subst e
                have hpo := HOK.out.2.2.2 p (List.mem_of_getElem? hp)
                have hKj : K[j]? = some (ends false (toN p)) := by
                  rw [HKK.out, HL.out]
                  simp [ori, swp, toNs, hp, ends]
                have hKs := take_succ_some hKj
                clear hp hKj
                have hjl : (j : Int) < (l.length : Int) := by omega
                obtain ⟨c, s⟩ := p
                simp only at c1 c2
                unfold LinkOk at hpo
                simp only at hpo
                obtain ⟨q1, q2, q3, q4⟩ := hpo
                obtain ⟨c, rfl⟩ := Int.eq_ofNat_of_zero_le q1
                obtain ⟨s, rfl⟩ := Int.eq_ofNat_of_zero_le q3
                have hfs : (K.take (j + 1)).foldl tStep R0 = tStep ((K.take j).foldl tStep R0) (c, s) := by
                  rw [hKs, List.foldl_append]
                  rfl
                generalize (K.take j).foldl tStep R0 = R at hfs HFA
                have HFS := hide hfs
                have hc1 := HFA.out.cell (i := c) (by omega)
                have hc2 := HFA.out.cell (i := s) (by omega)
                have hc3 := HFA.out.frozen s
                have hcI : (c : Int) < (N : Int) := by omega
                have hsI : (s : Int) < (N : Int) := by omega
                clear hKs hfs
                cases hR : R c with
                | false =>
                  rw [hR] at hc1
                  have HRR := hide hR
                  clear hR
                  go_wp2
                  go_quiet (fail)
                  go_wp2
                  go_roundg (l.length - (j + 1))
                  case measure => rw [HM2.out]; omega
                  case rel =>
                    refine ⟨j + 1, by omega, by go_num, (HFA.out.fr0 ((Fr.refl [] _).drewN _)).congr (fun u _ => ?_), hfr.drewN _, rfl⟩
                    rw [HFS.out]
                    simp [tStep, HRR.out]
                | true =>
                  rw [hR] at hc1
                  have HRR := hide hR
                  clear hR
                  go_wp2
                  go_quiet (fail)
                  go_wp2
                  go_roundg (l.length - (j + 1))
                  case measure => rw [HM2.out]; omega
                  case rel =>
                    refine ⟨j + 1, by omega, by go_num, ((HFA.out.set_ s true).fr0 ((Fr.refl [] _).drewN _)).congr (fun u _ => ?_), (hfr.set (.inr hiw) _).drewN _, rfl⟩
                    rw [HFS.out]
                    simp [tStep, HRR.out]
              · have hjl : ¬ (j : Int) < (l.length : Int) := by omega
                have hKl : K.length = l.length := by rw [HKK.out, ← HLL.out]; simp [ori, swp]
                have hfa := HFA.out
                rw [List.take_of_length_le (by omega), ← HSTEP.out] at hfa
                have HFB := hide hfa
                clear hfa HFA hKl
                go_wp2
                go_roundg (N - (t + 1))
                case measure => rw [HM.out]; omega
                case rel => exact ⟨t + 1, by omega, by go_num, HFB.out, hfr, rfl⟩
          · have htl : ¬ (t : Int) < (N : Int) := by omega
            obtain rfl : t = N := by omega
            have hfa := HFA.out.congr HRE.out
            generalize rchB t K fn = R at hfa HM1
            have HFB := hide hfa
            have hfw := hf1.call hfr
            obtain ⟨w3, rfl⟩ : ∃ w3 : World, w3 = wr := ⟨_, rfl⟩
            clear hfa HFA HRE
            go_wp2
            go_loopg [17, 18] t (fun m v i wr => ClRel2 w3 t R m v i wr)
            case atStart => exact ⟨0, by omega, rfl, own_nil _ _ _ _, Fr.refl _ _, rfl⟩
            case round =>
              obtain ⟨j, hj, rfl, hown, hfi, hmm⟩ := hrel
              have HM2 := hide hmm
              clear hmm
              by_cases hlt2 : j < t
              · have hjl : (j : Int) < (t : Int) := by omega
                have hc1 := (HFB.out.fr0 hfi).cell hlt2
                have hll : ((List.range j).filter R).length ≤ j := by
                  have := List.length_filter_le R (List.range j)
                  simpa using this
                obtain ⟨A5, c5, rfl, -, -, -⟩ := own_slice hown
                have HOWN := hide hown
                have HFS := hide (filter_range_succ R j)
                clear hown
                generalize (List.range j).filter R = F at HOWN hll HFS
                cases hR : R j with
                | false =>
                  rw [hR] at hc1
                  have HRR := hide hR
                  clear hR
                  go_wp2
                  go_roundg (t - (j + 1))
                  case measure => rw [HM2.out]; omega
                  case rel => exact ⟨j + 1, by omega, by go_num, by rw [HFS.out, HRR.out]; exact HOWN.out, hfi, rfl⟩
                | true =>
                  rw [hR] at hc1
                  have HRR := hide hR
                  clear hR
                  have hsz : w3.heap.size ≤ wr.heap.size + 1 := by have := hfi.size; omega
                  go_wp2_with (first
                    | (at_builtin
                       refine wpList_append_row _ rfl (.tmp 103) (.tmp 105) _ rfl w3.heap.size 3 i0 (.int .i64 0) 1 8 Try.underlying26 HI.out.1 HI.out.2.1 HI.out.2.2.1 HI.out.2.2.2 rfl (by omega) (.slice A5 F.length c5) F.length (F.map nv) rfl
                         (own_fr HOWN.out ((Fr.refl [] _).alloc _) (fun _ _ => by simp)) (some ⟨wr.heap.size, 0, none⟩) 1 1 [.int .i64 (j : Int)] rfl rfl (row_one wr _ _) (by intro u hu; simp at hu; subst hu; rfl) (by simp only [maxLen]; omega) (by omega) (by simpa using hsz) ?_
                       intro v1 w9 hown9 hg9 hat9))
                  have hf9 : Fr [] w3 w9 := (hfi.alloc _).grown hg9 (fun y hy => .inr (own_block HOWN.out hy).1)
                  go_roundg (t - (j + 1))
                  case measure => rw [HM2.out]; omega
                  case rel =>
                    refine ⟨j + 1, by omega, by go_num, ?_, hf9, rfl⟩
                    rw [HFS.out, HRR.out, if_pos rfl, List.length_append, List.length_singleton, List.map_append]
                    exact hown9
              · have hjl : ¬ (j : Int) < (t : Int) := by omega
                obtain rfl : j = t := by omega
                obtain ⟨A5, c5, rfl, -, -, -⟩ := own_slice hown
                have HOWN := hide hown
                clear hown
                go_wp2
                go_ret2
                exact ⟨.slice A5 ((List.range j).filter R).length c5, by rw [HM1.out]; rfl, by rw [HM1.out]; exact own_base HOWN.out hfw.size, hfw.call hfi⟩
  · have hne : (basicM n l != 0) = true := by simp [hb]
    have HM1 := hide (closM_bad (cons := false) (of := of) hb)
    clear hb
    go_wp2
    go_ret2
    exact ⟨.slice none 0 0, by rw [HM1.out]; rfl, by rw [HM1.out]; exact own_nil _ _ _ _, hf1⟩

set_option maxHeartbeats 4000000 in
theorem rclosure_true (n : Int) (A B : Option Addr) (cp cq : Nat) (l : List (Int × Int)) (of : List Int) (w : World) (hr : Row w A (pcs l)) (hb : Row w B (of.map (Value.int .i64))) (hm : l.length ≤ 4096) (ho : of.length ≤ 4096) :
    Calls Try.prog 47 #[.int .i64 n, .slice A l.length cp, .slice B of.length cq, .bool false] w (ClosRet w true n l of) := by
  obtain ⟨i0, hi0, hz0, hz1, hz2⟩ := info_parts int_info1
  have HI := hide (And.intro hi0 (And.intro hz0 (And.intro hz1 hz2)))
  have HR := hide hr
  have HB := hide hb
  clear hr hb hi0 hz0 hz1 hz2
  go_enter Try.func47, Try.ntmps47
  go_wp2_with fail
  refine (rbasic_any n A cp l w HR.out hm).mono ?_
  rintro e w1 ⟨rfl, hf1⟩
  by_cases hb : basicM n l = 0
  · obtain ⟨hok, hnd⟩ := basicM_zero hb
    obtain ⟨N, rfl⟩ := Int.eq_ofNat_of_zero_le hok.1
    rw [hb]
    have HBA := hide hb
    have hN : N ≤ 128 := by have := hok.2.1; omega
    have hl1 : l.length ≤ 1024 := hok.2.2.1
    have HOK := hide hok
    have HLT := hide (ori_lt (cons := true) (toNs_lt hok.2.2.2))
    have hmk := make_bools N N (Nat.le_refl _) (by omega)
    have hnew := FA.new w1 4 bv false N
    have hfr0 : Fr [] w1 (w1.alloc (.cells (Array.replicate N (.bool false)) 4)) := (Fr.refl _ _).alloc _
    clear hb hok hnd
    go_wp2
    generalize (w1.alloc (.cells (Array.replicate N (.bool false)) 4)) = w2 at hnew hfr0 ⊢
    obtain ⟨ig, hig⟩ : ∃ ig, ig = w1.heap.size := ⟨_, rfl⟩
    have hiw : w1.heap.size ≤ ig := by omega
    rw [← hig] at hnew ⊢
    clear hig hmk
    go_loopg [12] of.length (fun m i wr => RcRel1 w1 ig N of m i wr)
    case atStart => exact ⟨0, by omega, rfl, by simp, hnew.congr (fun u _ => by simp), hfr0, rfl⟩
    case round =>
      clear hnew hfr0
      obtain ⟨k, hk, rfl, hall, hfa, hfr, hmm⟩ := hrel
      have HM := hide hmm
      have HALL := hide hall
      have HFA := hide hfa
      clear hmm hall hfa
      have hfw := hf1.call hfr
      by_cases hlt : k < of.length
      · obtain ⟨x, hx⟩ : ∃ x, of[k]? = some x := ⟨_, List.getElem?_eq_getElem hlt⟩
        obtain ⟨ob, oo, e, c1⟩ := (HB.out.fr0 hfw).int hx
        subst e
        have hkl : (k : Int) < (of.length : Int) := by omega
        have HX := hide hx
        clear hx
        by_cases hin : 0 ≤ x ∧ x < (N : Int)
        · obtain ⟨h1, h2⟩ := hin
          obtain ⟨x, rfl⟩ := Int.eq_ofNat_of_zero_le h1
          have hc1 := HFA.out.cell (i := x) (by omega)
          have hc2 := HFA.out.frozen x
          go_wp2
          go_roundg (of.length - (k + 1))
          case measure => rw [HM.out]; omega
          case rel =>
            refine ⟨k + 1, by omega, by go_num, fun y hy => ?_, (HFA.out.set_ x true).congr (fun u _ => ?_), hfr.set (.inr hiw) _, rfl⟩
            · rw [take_succ_some HX.out] at hy
              rcases List.mem_append.1 hy with h | h
              · exact HALL.out y h
              · rw [List.mem_singleton.1 h]; exact ⟨h1, h2⟩
            · rw [take_succ_some HX.out, List.map_append]
              by_cases e : u = x <;> simp [e]
        · have hno : ¬ ∀ y ∈ of, 0 ≤ y ∧ y < (N : Int) := fun h => hin (h x (List.mem_of_getElem? HX.out))
          have HM1 := hide (closM_out (cons := true) HBA.out hno)
          have hway : x < 0 ∨ (0 ≤ x ∧ (N : Int) ≤ x) := by omega
          clear hno hin
          rcases hway with h1 | ⟨h1, h2⟩
          all_goals
            go_wp2
            go_ret2
            exact ⟨.slice none 0 0, by rw [HM1.out]; rfl, by rw [HM1.out]; exact own_nil _ _ _ _, hfw⟩
      · have hkl : ¬ (k : Int) < (of.length : Int) := by omega
        have hall := HALL.out
        have hfa := HFA.out
        rw [List.take_of_length_le (by omega)] at hall hfa
        have HM1 := hide (closM_ok (cons := true) HBA.out hall)
        have hofN : ∀ u ∈ of.map Int.toNat, u < N := fun u hu => by
          obtain ⟨y, hy, rfl⟩ := List.mem_map.1 hu
          have := hall y hy
          omega
        have HRE := hide (iter_reach HLT.out hofN)
        obtain ⟨L, hL⟩ : ∃ L, L = toNs l := ⟨_, rfl⟩
        have hLl : L.length = l.length := by rw [hL]; simp [toNs]
        rw [← hL] at HRE HM1 HLT
        generalize of.map Int.toNat = fn at hfa HRE HM1
        have HF0 := hide hfa
        have HL := hide hL
        have HLL := hide hLl
        clear HALL HM hall hofN hfa HFA hL hLl
        obtain ⟨K, hK⟩ : ∃ K, K = ori true L := ⟨_, rfl⟩
        rw [← hK] at HRE HM1
        have HKK := hide hK
        clear hK
        go_wp2
        go_loopg [13] N (fun m i wr => RcRel2 w1 ig N K fn m i wr)
        case atStart => exact ⟨0, by omega, rfl, HF0.out, hfr, rfl⟩
        case round =>
          clear HF0 hfr hfw
          obtain ⟨t, ht, rfl, hfa, hfr, hmm⟩ := hrel
          have HM := hide hmm
          have HFA := hide hfa
          clear hmm hfa
          by_cases hlt2 : t < N
          · have htl : (t : Int) < (N : Int) := by omega
            have hstep : iterT K (t + 1) (fun u => decide (u ∈ fn)) = K.foldl tStep (iterT K t (fun u => decide (u ∈ fn))) := rfl
            generalize iterT K t (fun u => decide (u ∈ fn)) = R0 at hstep HFA
            have HSTEP := hide hstep
            clear hstep
            go_wp2
            go_loopg [14] l.length (fun m i wr => RcRel3 w1 ig N K R0 l.length m i wr)
            case atStart => exact ⟨0, by omega, rfl, HFA.out, hfr, rfl⟩
            case round =>
              clear HFA hfr
              obtain ⟨j, hj, rfl, hfa, hfr, hmm⟩ := hrel
              have HM2 := hide hmm
              have HFA := hide hfa
              clear hmm hfa
              by_cases hlt3 : j < l.length
              · obtain ⟨p, hp⟩ : ∃ p, l[j]? = some p := ⟨_, List.getElem?_eq_getElem hlt3⟩
                obtain ⟨ob, oo, e, c1, c2⟩ := (HR.out.fr0 (hf1.call hfr)).link hp
                subst e
                have hpo := HOK.out.2.2.2 p (List.mem_of_getElem? hp)
                have hKj : K[j]? = some (ends true (toN p)) := by
                  rw [HKK.out, HL.out]
                  simp [ori, swp, toNs, hp, ends]
                have hKs := take_succ_some hKj
                clear hp hKj
                have hjl : (j : Int) < (l.length : Int) := by omega
                obtain ⟨c, s⟩ := p
                simp only at c1 c2
                unfold LinkOk at hpo
                simp only at hpo
                obtain ⟨q1, q2, q3, q4⟩ := hpo
                obtain ⟨c, rfl⟩ := Int.eq_ofNat_of_zero_le q1
                obtain ⟨s, rfl⟩ := Int.eq_ofNat_of_zero_le q3
                have hfs : (K.take (j + 1)).foldl tStep R0 = tStep ((K.take j).foldl tStep R0) (s, c) := by
                  rw [hKs, List.foldl_append]
                  rfl
                generalize (K.take j).foldl tStep R0 = R at hfs HFA
                have HFS := hide hfs
                have hc1 := HFA.out.cell (i := s) (by omega)
                have hc2 := HFA.out.cell (i := c) (by omega)
                have hc3 := HFA.out.frozen c
                have hcI : (c : Int) < (N : Int) := by omega
                have hsI : (s : Int) < (N : Int) := by omega
                clear hKs hfs
                cases hR : R s with
                | false =>
                  rw [hR] at hc1
                  have HRR := hide hR
                  clear hR
                  go_wp2
                  go_quiet (fail)
                  go_wp2
                  go_roundg (l.length - (j + 1))
                  case measure => rw [HM2.out]; omega
                  case rel =>
                    refine ⟨j + 1, by omega, by go_num, (HFA.out.fr0 ((Fr.refl [] _).drewN _)).congr (fun u _ => ?_), hfr.drewN _, rfl⟩
                    rw [HFS.out]
                    simp [tStep, HRR.out]
                | true =>
                  rw [hR] at hc1
                  have HRR := hide hR
                  clear hR
                  go_wp2
                  go_quiet (fail)
                  go_wp2
                  go_roundg (l.length - (j + 1))
                  case measure => rw [HM2.out]; omega
                  case rel =>
                    refine ⟨j + 1, by omega, by go_num, ((HFA.out.set_ c true).fr0 ((Fr.refl [] _).drewN _)).congr (fun u _ => ?_), (hfr.set (.inr hiw) _).drewN _, rfl⟩
                    rw [HFS.out]
                    simp [tStep, HRR.out]
              · have hjl : ¬ (j : Int) < (l.length : Int) := by omega
                have hKl : K.length = l.length := by rw [HKK.out, ← HLL.out]; simp [ori, swp]
                have hfa := HFA.out
                rw [List.take_of_length_le (by omega), ← HSTEP.out] at hfa
                have HFB := hide hfa
                clear hfa HFA hKl
                go_wp2
                go_roundg (N - (t + 1))
                case measure => rw [HM.out]; omega
                case rel => exact ⟨t + 1, by omega, by go_num, HFB.out, hfr, rfl⟩
          · have htl : ¬ (t : Int) < (N : Int) := by omega
            obtain rfl : t = N := by omega
            have hfa := HFA.out.congr HRE.out
            generalize rchB t K fn = R at hfa HM1
            have HFB := hide hfa
            have hfw := hf1.call hfr
            obtain ⟨w3, rfl⟩ : ∃ w3 : World, w3 = wr := ⟨_, rfl⟩
            clear hfa HFA HRE
            go_wp2
            go_loopg [17, 18] t (fun m v i wr => ClRel2 w3 t R m v i wr)
            case atStart => exact ⟨0, by omega, rfl, own_nil _ _ _ _, Fr.refl _ _, rfl⟩
            case round =>
              obtain ⟨j, hj, rfl, hown, hfi, hmm⟩ := hrel
              have HM2 := hide hmm
              clear hmm
              by_cases hlt2 : j < t
              · have hjl : (j : Int) < (t : Int) := by omega
                have hc1 := (HFB.out.fr0 hfi).cell hlt2
                have hll : ((List.range j).filter R).length ≤ j := by
                  have := List.length_filter_le R (List.range j)
                  simpa using this
                obtain ⟨A5, c5, rfl, -, -, -⟩ := own_slice hown
                have HOWN := hide hown
                have HFS := hide (filter_range_succ R j)
                clear hown
                generalize (List.range j).filter R = F at HOWN hll HFS
                cases hR : R j with
                | false =>
                  rw [hR] at hc1
                  have HRR := hide hR
                  clear hR
                  go_wp2
                  go_roundg (t - (j + 1))
                  case measure => rw [HM2.out]; omega
                  case rel => exact ⟨j + 1, by omega, by go_num, by rw [HFS.out, HRR.out]; exact HOWN.out, hfi, rfl⟩
                | true =>
                  rw [hR] at hc1
                  have HRR := hide hR
                  clear hR
                  have hsz : w3.heap.size ≤ wr.heap.size + 1 := by have := hfi.size; omega
                  go_wp2_with (first
                    | (at_builtin
                       refine wpList_append_row _ rfl (.tmp 103) (.tmp 105) _ rfl w3.heap.size 3 i0 (.int .i64 0) 1 8 Try.underlying26 HI.out.1 HI.out.2.1 HI.out.2.2.1 HI.out.2.2.2 rfl (by omega) (.slice A5 F.length c5) F.length (F.map nv) rfl
                         (own_fr HOWN.out ((Fr.refl [] _).alloc _) (fun _ _ => by simp)) (some ⟨wr.heap.size, 0, none⟩) 1 1 [.int .i64 (j : Int)] rfl rfl (row_one wr _ _) (by intro u hu; simp at hu; subst hu; rfl) (by simp only [maxLen]; omega) (by omega) (by simpa using hsz) ?_
                       intro v1 w9 hown9 hg9 hat9))
                  have hf9 : Fr [] w3 w9 := (hfi.alloc _).grown hg9 (fun y hy => .inr (own_block HOWN.out hy).1)
                  go_roundg (t - (j + 1))
                  case measure => rw [HM2.out]; omega
                  case rel =>
                    refine ⟨j + 1, by omega, by go_num, ?_, hf9, rfl⟩
                    rw [HFS.out, HRR.out, if_pos rfl, List.length_append, List.length_singleton, List.map_append]
                    exact hown9
              · have hjl : ¬ (j : Int) < (t : Int) := by omega
                obtain rfl : j = t := by omega
                obtain ⟨A5, c5, rfl, -, -, -⟩ := own_slice hown
                have HOWN := hide hown
                clear hown
                go_wp2
                go_ret2
                exact ⟨.slice A5 ((List.range j).filter R).length c5, by rw [HM1.out]; rfl, by rw [HM1.out]; exact own_base HOWN.out hfw.size, hfw.call hfi⟩
  · have hne : (basicM n l != 0) = true := by simp [hb]
    have HM1 := hide (closM_bad (cons := true) (of := of) hb)
    clear hb
    go_wp2
    go_ret2
    exact ⟨.slice none 0 0, by rw [HM1.out]; rfl, by rw [HM1.out]; exact own_nil _ _ _ _, hf1⟩

set_option maxHeartbeats 1000000 in
theorem rsuppliers_any (n : Int) (A B : Option Addr) (cp cq : Nat) (l : List (Int × Int)) (of : List Int) (w : World) (hr : Row w A (pcs l)) (hb : Row w B (of.map (Value.int .i64))) (hm : l.length ≤ 4096) (ho : of.length ≤ 4096) :
    Calls Try.prog 29 #[.int .i64 n, .slice A l.length cp, .slice B of.length cq] w (ClosRet w false n l of) := by
  have HR := hide hr
  have HB := hide hb
  clear hr hb
  go_enter Try.func29, Try.ntmps29
  go_wp2_with fail
  refine (rclosure_false n A B cp cq l of w HR.out HB.out hm ho).mono ?_
  rintro e w1 ⟨v, rfl, hown, hf⟩
  go_wp2
  go_ret2
  exact ⟨v, rfl, hown, hf⟩

end Go.Proofs.Ytnfhiadhpbojkaa

