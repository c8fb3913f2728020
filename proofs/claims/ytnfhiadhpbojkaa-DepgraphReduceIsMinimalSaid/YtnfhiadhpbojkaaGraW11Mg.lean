/- Walks: depgraph.closure, Suppliers, Consumers. -/
import Derived.Test.YtnfhiadhpbojkaaGraW10Mg
import Derived.Test.YtnfhiadhpbojkaaGraW1Mg
namespace Go.Proofs.Ytnfhiadhpbojkaa
open Go.RowKit

def ClRel1 (w1 : World) (n : Int) (of : List Int) (m : Nat) (i : Value) (wr : World) : Prop := ∃ k : Nat, k ≤ of.length ∧ i = .int .i64 k ∧ (∀ x ∈ of.take k, 0 ≤ x ∧ x < n) ∧ w1 = wr ∧ m = of.length - k
def ClRel2 (w1 : World) (N : Nat) (R : Nat → Bool) (m : Nat) (v i : Value) (wr : World) : Prop :=
  ∃ k : Nat, k ≤ N ∧ i = .int .i64 k ∧ wr.ownsRow w1.heap.size 3 1 v ((List.range k).filter R).length (((List.range k).filter R).map nv) ∧ Fr [] w1 wr ∧ m = N - k
def ClosRet (w : World) (cons : Bool) (n : Int) (l : List (Int × Int)) (of : List Int) (e : Ending) (w' : World) : Prop :=
  ∃ v, e = .returned (.tuple #[v, .int .i64 (closM cons n l of).2]) ∧ w'.ownsRow w.heap.size 3 1 v (closM cons n l of).1.length ((closM cons n l of).1.map nv) ∧ Fr [] w w'
theorem map_nv_ints {l : List Int} (h : ∀ x ∈ l, 0 ≤ x) : (l.map Int.toNat).map nv = l.map (Value.int .i64) := by
  rw [List.map_map]
  refine List.map_congr_left fun d hd => ?_
  have := h d hd
  simp [nv, Int.toNat_of_nonneg this]
theorem filter_range_succ (R : Nat → Bool) (k : Nat) : (List.range (k + 1)).filter R = if R k then (List.range k).filter R ++ [k] else (List.range k).filter R := by
  rw [List.range_succ, List.filter_append]
  cases h : R k <;> simp [h]

set_option maxHeartbeats 4000000 in
theorem closure_any (cons : Bool) (n : Int) (A B : Option Addr) (cp cq : Nat) (l : List (Int × Int)) (of : List Int) (w : World) (hr : Row w A (pcs l)) (hb : Row w B (of.map (Value.int .i64))) (hm : l.length ≤ 4096) (ho : of.length ≤ 4096) :
    Calls Try.prog 46 #[.int .i64 n, .slice A l.length cp, .slice B of.length cq, .bool cons] w (ClosRet w cons n l of) := by
  obtain ⟨i0, hi0, hz0, hz1, hz2⟩ := info_parts int_info1
  have HI := hide (And.intro hi0 (And.intro hz0 (And.intro hz1 hz2)))
  have HR := hide hr
  have HB := hide hb
  clear hr hb hi0 hz0 hz1 hz2
  go_enter Try.func46, Try.ntmps46
  go_wp2_with fail
  refine (checkLinks_any n A cp l w HR.out hm).mono ?_
  rintro e w1 ⟨rfl, hf1⟩
  by_cases hb : basicM n l = 0
  · obtain ⟨hok, hnd⟩ := basicM_zero hb
    obtain ⟨N, rfl⟩ := Int.eq_ofNat_of_zero_le hok.1
    rw [hb]
    have HBA := hide hb
    have hN : N ≤ 128 := by have := hok.2.1; omega
    have hl1 : l.length ≤ 1024 := hok.2.2.1
    have HOK := hide hok
    have HLT := hide (toNs_lt hok.2.2.2)
    clear hb hok hnd
    go_wp2
    go_loopg [24] of.length (fun m i wr => ClRel1 w1 (N : Int) of m i wr)
    case atStart => exact ⟨0, by omega, rfl, by simp, rfl, rfl⟩
    case round =>
      obtain ⟨k, hk, rfl, hall, rfl, hmm⟩ := hrel
      have HM := hide hmm
      have HALL := hide hall
      clear hmm hall
      by_cases hlt : k < of.length
      · obtain ⟨x, hx⟩ : ∃ x, of[k]? = some x := ⟨_, List.getElem?_eq_getElem hlt⟩
        obtain ⟨ob, oo, e, c1⟩ := (HB.out.fr0 hf1).int hx
        subst e
        have hkl : (k : Int) < (of.length : Int) := by omega
        have HX := hide hx
        clear hx
        by_cases hin : 0 ≤ x ∧ x < (N : Int)
        · obtain ⟨h1, h2⟩ := hin
          go_wp2
          go_roundg (of.length - (k + 1))
          case measure => rw [HM.out]; omega
          case rel =>
            refine ⟨k + 1, by omega, by go_num, fun y hy => ?_, rfl, rfl⟩
            rw [take_succ_some HX.out] at hy
            rcases List.mem_append.1 hy with h | h
            · exact HALL.out y h
            · rw [List.mem_singleton.1 h]; exact ⟨h1, h2⟩
        · have hno : ¬ ∀ y ∈ of, 0 ≤ y ∧ y < (N : Int) := fun h => hin (h x (List.mem_of_getElem? HX.out))
          have HM1 := hide (closM_out (cons := cons) HBA.out hno)
          have hway : x < 0 ∨ (0 ≤ x ∧ (N : Int) ≤ x) := by omega
          clear hno hin
          rcases hway with h1 | ⟨h1, h2⟩
          all_goals
            go_wp2
            go_ret2
            exact ⟨.slice none 0 0, by rw [HM1.out]; rfl, by rw [HM1.out]; exact own_nil _ _ _ _, hf1⟩
      · have hkl : ¬ (k : Int) < (of.length : Int) := by omega
        have hall := HALL.out
        rw [List.take_of_length_le (by omega)] at hall
        have HM1 := hide (closM_ok (cons := cons) HBA.out hall)
        have hofN : ∀ u ∈ of.map Int.toNat, u < N := fun u hu => by
          obtain ⟨y, hy, rfl⟩ := List.mem_map.1 hu
          have := hall y hy
          omega
        have HOFN := hide hofN
        have HCE := hide (map_nv_ints (fun x hx => (hall x hx).1))
        have hofl : (of.map Int.toNat).length = of.length := by simp
        clear HALL HM hall hofN
        go_wp2_with fail
        refine (neighbors_any cons N A cp l w1 (HR.out.fr0 hf1) HOK.out).mono ?_
        rintro e w2 ⟨g, rfl, hls, hf2⟩
        have hrc := reach_any cons (toNs l) B cq (of.map Int.toNat) hls (by rw [HCE.out]; exact (HB.out.fr0 hf1).fr0 hf2) HOFN.out HLT.out hN (by simp [toNs]; omega) (by omega)
        rw [hofl] at hrc
        clear hls
        go_wp2_with fail
        refine hrc.mono ?_
        clear hrc
        rintro e w3 ⟨rb, rfl, hfa, hrb, hf3⟩
        generalize rchB N (ori cons (toNs l)) (of.map Int.toNat) = R at hfa HM1
        have HFA := hide hfa
        have hfw := (hf1.call hf2).call hf3
        clear hfa
        go_wp2
        go_loopg [13, 43] N (fun m v i wr => ClRel2 w3 N R m v i wr)
        case atStart => exact ⟨0, by omega, rfl, own_nil _ _ _ _, Fr.refl _ _, rfl⟩
        case round =>
          obtain ⟨j, hj, rfl, hown, hfr, hmm⟩ := hrel
          have HM := hide hmm
          clear hmm
          by_cases hlt2 : j < N
          · have hjl : (j : Int) < (N : Int) := by omega
            have hc1 := (HFA.out.fr0 hfr).cell hlt2
            have hll : ((List.range j).filter R).length ≤ j := by
              have := List.length_filter_le R (List.range j)
              simpa using this
            obtain ⟨A5, c5, rfl, -, -, -⟩ := own_slice hown
            have HOWN := hide hown
            have HFS := hide (filter_range_succ R j)
            clear hown
            generalize (List.range j).filter R = F at HOWN hll HFS
            cases hR : R j with
            | false =>
              rw [hR] at hc1
              have HRR := hide hR
              clear hR
              go_wp2
              go_roundg (N - (j + 1))
              case measure => rw [HM.out]; omega
              case rel => exact ⟨j + 1, by omega, by go_num, by rw [HFS.out, HRR.out]; exact HOWN.out, hfr, rfl⟩
            | true =>
              rw [hR] at hc1
              have HRR := hide hR
              clear hR
              have hsz : w3.heap.size ≤ wr.heap.size + 1 := by have := hfr.size; omega
              go_wp2_with (first
                | (at_builtin
                   refine wpList_append_row _ rfl (.tmp 49) (.tmp 51) _ rfl w3.heap.size 3 i0 (.int .i64 0) 1 8 Try.underlying26 HI.out.1 HI.out.2.1 HI.out.2.2.1 HI.out.2.2.2 rfl (by omega) (.slice A5 F.length c5) F.length (F.map nv) rfl
                     (own_fr HOWN.out ((Fr.refl [] _).alloc _) (fun _ _ => by simp)) (some ⟨wr.heap.size, 0, none⟩) 1 1 [.int .i64 (j : Int)] rfl rfl (row_one wr _ _) (by intro u hu; simp at hu; subst hu; rfl) (by simp only [maxLen]; omega) (by omega) (by simpa using hsz) ?_
                   intro v1 w9 hown9 hg9 hat9))
              have hf9 : Fr [] w3 w9 := (hfr.alloc _).grown hg9 (fun y hy => .inr (own_block HOWN.out hy).1)
              go_roundg (N - (j + 1))
              case measure => rw [HM.out]; omega
              case rel =>
                refine ⟨j + 1, by omega, by go_num, ?_, hf9, rfl⟩
                rw [HFS.out, HRR.out, if_pos rfl, List.length_append, List.length_singleton, List.map_append]
                exact hown9
          · have hjl : ¬ (j : Int) < (N : Int) := by omega
            obtain rfl : j = N := by omega
            obtain ⟨A5, c5, rfl, -, -, -⟩ := own_slice hown
            have HOWN := hide hown
            clear hown
            go_wp2
            go_ret2
            exact ⟨.slice A5 ((List.range j).filter R).length c5, by rw [HM1.out]; rfl, by rw [HM1.out]; exact own_base HOWN.out hfw.size, hfw.call hfr⟩
  · have hne : (basicM n l != 0) = true := by simp [hb]
    have HM1 := hide (closM_bad (cons := cons) (of := of) hb)
    clear hb
    go_wp2
    go_ret2
    exact ⟨.slice none 0 0, by rw [HM1.out]; rfl, by rw [HM1.out]; exact own_nil _ _ _ _, hf1⟩
set_option maxHeartbeats 1000000 in
theorem suppliers_any (n : Int) (A B : Option Addr) (cp cq : Nat) (l : List (Int × Int)) (of : List Int) (w : World) (hr : Row w A (pcs l)) (hb : Row w B (of.map (Value.int .i64))) (hm : l.length ≤ 4096) (ho : of.length ≤ 4096) :
    Calls Try.prog 28 #[.int .i64 n, .slice A l.length cp, .slice B of.length cq] w (ClosRet w false n l of) := by
  have HR := hide hr
  have HB := hide hb
  clear hr hb
  go_enter Try.func28, Try.ntmps28
  go_wp2_with fail
  refine (closure_any false n A B cp cq l of w HR.out HB.out hm ho).mono ?_
  rintro e w1 ⟨v, rfl, hown, hf⟩
  go_wp2
  go_ret2
  exact ⟨v, rfl, hown, hf⟩
end Go.Proofs.Ytnfhiadhpbojkaa

