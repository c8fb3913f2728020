/- help.Equal at ints, walked. -/
import Derived.Test.YtnfhiadhpbojkaaMgDepgraphMinimal0
import Derived.Test.YtnfhiadhpbojkaaProg
import Derived.Lib.Hide
import Derived.Deep.LoopGhost
import Derived.Deep.QuietTactic
import Derived.BigQuiet
import Derived.Test.YtnfhiadhpbojkaaGraW5Mg
import Derived.Test.YtnfhiadhpbojkaaGraW6Mg
namespace Go.Proofs.Ytnfhiadhpbojkaa
open Go.RowKit

def EqRel {α : Type} (w : World) (la lb : List α) (m : Nat) (i : Value) (wr : World) : Prop := ∃ k : Nat, k ≤ la.length ∧ i = .int .i64 k ∧ la.take k = lb.take k ∧ Fr [] w wr ∧ m = la.length - k
set_option maxHeartbeats 1000000 in
theorem equalInts_any (A B : Option Addr) (cp cq : Nat) (la lb : List Int) (w : World) (ha : Row w A (la.map (Value.int .i64))) (hb : Row w B (lb.map (Value.int .i64))) (hn : la.length ≤ 4096) (_ : lb.length ≤ 4096) :
    Calls Try.prog 19 #[.slice A la.length cp, .slice B lb.length cq] w fun e w' => e = .returned (.bool (decide (la = lb))) ∧ Fr [] w w' := by
  have HA := hide ha
  have HB := hide hb
  clear ha hb
  by_cases hl : la.length = lb.length
  · have hne : ((la.length : Int) != (lb.length : Int)) = false := by simp [hl]
    have HL := hide hl
    clear hl
    go_enter Try.func19, Try.ntmps19
    go_wp2
    go_loopg [5] la.length (fun n i wr => EqRel w la lb n i wr)
    case atStart => exact ⟨0, Nat.zero_le _, rfl, rfl, Fr.refl _ _, rfl⟩
    case round =>
      obtain ⟨k, hk, rfl, heq, hfr, hmm⟩ := hrel
      have HEQ := hide heq
      have HM := hide hmm
      clear heq hmm
      by_cases hlt : k < la.length
      · have hlt2 : k < lb.length := by rw [← HL.out]; exact hlt
        obtain ⟨pa, hpa⟩ : ∃ pa, la[k]? = some pa := ⟨_, List.getElem?_eq_getElem hlt⟩
        obtain ⟨pb, hpb⟩ : ∃ pb, lb[k]? = some pb := ⟨_, List.getElem?_eq_getElem hlt2⟩
        obtain ⟨ob, oo, rfl, c1⟩ := (HA.out.fr0 hfr).int hpa
        obtain ⟨ob', oo', rfl, c3⟩ := (HB.out.fr0 hfr).int hpb
        have HPA := hide hpa
        have HPB := hide hpb
        clear hpa hpb
        have hk1 : (k : Int) < (la.length : Int) := by omega
        have hk2 : (k : Int) < (lb.length : Int) := by omega
        by_cases e1 : pa = pb
        · subst e1
          have eb : (pa != pa) = false := by simp
          go_wp2
          go_quiet (fail)
          go_wp2
          go_roundg (la.length - (k + 1))
          case measure => rw [HM.out]; omega
          case rel =>
            refine ⟨k + 1, by omega, by go_num, ?_, hfr.drewN _, rfl⟩
            rw [List.take_add_one, List.take_add_one, HPA.out, HPB.out, HEQ.out]
        · have eb : (pa != pb) = true := by simp [e1]
          go_wp2
          go_quiet (fail)
          go_wp2
          go_ret
          refine ⟨ret_bool ?_, hfr.drewN _⟩
          rw [eq_comm, decide_eq_false_iff_not]
          intro e
          have h1 := HPA.out
          rw [e, HPB.out] at h1
          injection h1 with h1
          exact e1 h1.symm
      · have hk1 : ¬ (k : Int) < (la.length : Int) := by omega
        go_wp2
        go_ret
        refine ⟨ret_bool ?_, hfr⟩
        rw [eq_comm, decide_eq_true_eq]
        have := HEQ.out
        rwa [List.take_of_length_le (by omega), List.take_of_length_le (by rw [← HL.out]; omega)] at this
  · have hne : ((la.length : Int) != (lb.length : Int)) = true := by simp; omega
    have hd : decide (la = lb) = false := decide_eq_false (fun e => hl (by rw [e]))
    have HD := hide hd
    clear hl hd
    go_enter Try.func19, Try.ntmps19
    go_wp2
    go_ret
    exact ⟨ret_bool HD.out.symm, Fr.refl _ _⟩
end Go.Proofs.Ytnfhiadhpbojkaa

/- Walks: law24's awake. -/
namespace Go.Proofs.Ytnfhiadhpbojkaa
open Go.RowKit

theorem equalNats_any (A B : Option Addr) (cp cq : Nat) (la lb : List Nat) (w : World) (ha : Row w A (la.map nv)) (hb : Row w B (lb.map nv)) (hn : la.length ≤ 4096) (hm : lb.length ≤ 4096) :
    Calls Try.prog 19 #[.slice A la.length cp, .slice B lb.length cq] w fun e w' => e = .returned (.bool (decide (la = lb))) ∧ Fr [] w w' := by
  have := equalInts_any A B cp cq (toI la) (toI lb) w (by rw [toI_cells]; exact ha) (by rw [toI_cells]; exact hb) (by rw [toI_length]; exact hn) (by rw [toI_length]; exact hm)
  rw [toI_length, toI_length] at this
  refine this.mono fun e w' ⟨h1, h2⟩ => ⟨?_, h2⟩
  rw [h1]
  refine ret_bool (decide_eq_decide.2 ⟨fun h => ?_, fun h => by rw [h]⟩)
  unfold toI at h
  exact (List.map_inj_right (fun x y e => by omega)).1 h

def demoL : List (Int × Int) := [(2, 0), (0, 1), (2, 1)]
def demoC : List (Int × Int) := [(0, 1), (1, 0)]
theorem demo_order : orderM 3 demoL = ([1, 0, 2], 0) := by decide +kernel
theorem demo_levels : levelsM 3 demoL = ([1, 0, 2], 0) := by decide +kernel
theorem demo_cycle : cycleM 2 demoC = ([0, 1], 0) := by decide +kernel

set_option maxHeartbeats 2000000 in
set_option maxRecDepth 10000 in
theorem awake24_any (w : World) : Calls Try.prog 15 #[] w fun e w' => e = .returned (.bool true) ∧ Fr [] w w' := by
  go_enter Try.func15, Try.ntmps15
  go_wp2_with fail
  have hl := row_lit w (pcs demoL).toArray 34 rfl
  refine (order_any24 3 (some ⟨w.heap.size, 0, none⟩) 3 demoL _ hl (by simp [demoL])).mono ?_
  rintro e w1 ⟨v1, rfl, hown1, hfr1⟩
  rw [demo_order] at hown1 ⊢
  obtain ⟨A1, c1, rfl, -, hrow1, -⟩ := own_slice hown1
  have HL := hide (hl.fr0 hfr1)
  have HR1 := hide hrow1
  have hfw1 : Fr [] w w1 := ((Fr.refl [] _).alloc _).call hfr1
  clear hrow1 hown1 hfr1 hl
  go_wp2_with fail
  refine (levels_any24 3 (some ⟨w.heap.size, 0, none⟩) 3 demoL _ HL.out (by simp [demoL])).mono ?_
  rintro e w2 ⟨v2, rfl, hown2, hfr2⟩
  rw [demo_levels] at hown2 ⊢
  obtain ⟨A2, c2, rfl, -, hrow2, -⟩ := own_slice hown2
  have HR1b := hide (HR1.out.fr0 hfr2)
  have HR2 := hide hrow2
  have hfw2 := hfw1.call hfr2
  clear hrow2 hown2 hfr2 HL hfw1
  go_wp2_with fail
  have hl := row_lit w2 (pcs demoC).toArray 34 rfl
  refine (cycle_any24 2 (some ⟨w2.heap.size, 0, none⟩) 2 demoC _ hl (by simp [demoC])).mono ?_
  rintro e w3 ⟨v3, rfl, hown3, hfr3⟩
  rw [demo_cycle] at hown3 ⊢
  obtain ⟨A3, c3, rfl, -, hrow3, -⟩ := own_slice hown3
  have hf23 : Fr [] w2 w3 := ((Fr.refl [] _).alloc _).call hfr3
  have HR1c := hide (HR1b.out.fr0 hf23)
  have HR2c := hide (HR2.out.fr0 hf23)
  have HR3 := hide hrow3
  have hfw3 := hfw2.call hf23
  clear hrow3 hown3 hfr3 hl hfw2 hf23 HR1b HR2
  go_wp2_with fail
  refine (equalNats_any A1 (some ⟨w3.heap.size, 0, none⟩) c1 3 [1, 0, 2] [1, 0, 2] _ (HR1c.out.fr0 ((Fr.refl [] _).alloc _)) (row_lit w3 _ _ rfl) (by simp) (by simp)).mono ?_
  rintro e w4 ⟨rfl, hfr4⟩
  rw [decide_eq_true rfl]
  have hf34 : Fr [] w3 w4 := ((Fr.refl [] _).alloc _).call hfr4
  clear hfr4
  go_wp2_with fail
  refine (equalNats_any A2 (some ⟨w4.heap.size, 0, none⟩) c2 3 [1, 0, 2] [1, 0, 2] _ ((HR2c.out.fr0 hf34).fr0 ((Fr.refl [] _).alloc _)) (row_lit w4 _ _ rfl) (by simp) (by simp)).mono ?_
  rintro e w5 ⟨rfl, hfr5⟩
  rw [decide_eq_true rfl]
  have hf35 : Fr [] w3 w5 := (hf34.alloc _).call hfr5
  clear hfr5 hf34
  go_wp2_with fail
  refine (equalNats_any A3 (some ⟨w5.heap.size, 0, none⟩) c3 2 [0, 1] [0, 1] _ ((HR3.out.fr0 hf35).fr0 ((Fr.refl [] _).alloc _)) (row_lit w5 _ _ rfl) (by simp) (by simp)).mono ?_
  rintro e w6 ⟨rfl, hfr6⟩
  rw [decide_eq_true rfl]
  go_wp2
  go_ret
  exact ⟨rfl, ((hfw3.call hf35).alloc _).call hfr6⟩
end Go.Proofs.Ytnfhiadhpbojkaa

