/- Walks: help.Mod, help.Equal at sleep operations. -/
import Derived.Test.YtgbkgiglagfciaaSuspW6
import Derived.Test.YtgbkgiglagfciaaHlpMod
namespace Go.Proofs.Ytgbkgiglagfciaa
open Go.RowKit


theorem opCells_get {l : List (Nat × Nat)} {k : Nat} {o : Nat × Nat} (h : l[k]? = some o) : (opCells l)[k * 2]? = some (nv o.1) ∧ (opCells l)[k * 2 + 1]? = some (nv o.2) := by
  induction l generalizing k with
  | nil => simp at h
  | cons a l ih =>
    cases k with
    | zero =>
      simp at h
      subst h
      exact ⟨rfl, rfl⟩
    | succ k =>
      simp at h
      have := ih h
      rw [show (k + 1) * 2 = k * 2 + 2 by omega, show k * 2 + 2 + 1 = k * 2 + 1 + 2 by omega]
      simpa [opCells] using this

set_option maxHeartbeats 1000000 in
theorem equalOps_any (A B : Option Addr) (cp cq : Nat) (la lb : List (Nat × Nat)) (w : World) (ha : Row w A (opCells la)) (hb : Row w B (opCells lb)) (hn : la.length ≤ 4096) (hm : lb.length ≤ 4096) :
    Calls Try.prog 15 #[.slice A la.length cp, .slice B lb.length cq] w fun e w' => e = .returned (.bool (decide (la = lb))) ∧ Fr [] w w' := by
  have HA := hide ha
  have HB := hide hb
  clear ha hb
  by_cases hl : la.length = lb.length
  · have hne : ((la.length : Int) != (lb.length : Int)) = false := by simp [hl]
    have HL := hide hl
    clear hl
    go_enter Try.func15, Try.ntmps15
    go_wp2
    go_loopg [5] la.length (fun n i wr => ∃ k : Nat, k ≤ la.length ∧ i = .int .i64 k ∧ la.take k = lb.take k ∧ Fr [] w wr ∧ n = la.length - k)
    case atStart => exact ⟨0, Nat.zero_le _, rfl, rfl, Fr.refl _ _, rfl⟩
    case round =>
      obtain ⟨k, hk, rfl, heq, hfr, hmm⟩ := hrel
      have HEQ := hide heq
      have HM := hide hmm
      clear heq hmm
      by_cases hlt : k < la.length
      · have hlt2 : k < lb.length := by rw [← HL.out]; exact hlt
        obtain ⟨pa, hpa⟩ : ∃ pa, la[k]? = some pa := ⟨_, List.getElem?_eq_getElem hlt⟩
        obtain ⟨pb, hpb⟩ : ∃ pb, lb[k]? = some pb := ⟨_, List.getElem?_eq_getElem hlt2⟩
        obtain ⟨ob, oo, rfl, c1⟩ := (HA.out.fr0 hfr).at_ (opCells_get hpa).1
        obtain ⟨_, _, e1, c2⟩ := (HA.out.fr0 hfr).at_ (opCells_get hpa).2
        cases e1
        obtain ⟨ob', oo', rfl, c3⟩ := (HB.out.fr0 hfr).at_ (opCells_get hpb).1
        obtain ⟨_, _, e2, c4⟩ := (HB.out.fr0 hfr).at_ (opCells_get hpb).2
        cases e2
        have HPA := hide hpa
        have HPB := hide hpb
        clear hpa hpb
        have hk1 : (k : Int) < (la.length : Int) := by omega
        have hk2 : (k : Int) < (lb.length : Int) := by omega
        rw [← Nat.add_assoc] at c2 c4
        obtain ⟨a1, a2⟩ := pa
        obtain ⟨b1, b2⟩ := pb
        simp only at c1 c2 c3 c4
        by_cases e1 : a1 = b1
        · subst e1
          by_cases e2 : a2 = b2
          · subst e2
            go_wp2
            go_quiet (fail)
            go_wp2
            go_roundg (la.length - (k + 1))
            case measure => rw [HM.out]; omega
            case rel =>
              refine ⟨k + 1, by omega, by go_num, ?_, hfr.drewN _, rfl⟩
              rw [List.take_add_one, List.take_add_one, HPA.out, HPB.out, HEQ.out]
          · go_wp2
            go_quiet (fail)
            go_wp2
            go_ret
            refine ⟨ret_bool ?_, hfr.drewN _⟩
            rw [eq_comm, decide_eq_false_iff_not]
            intro e
            have h1 := HPA.out
            rw [e, HPB.out] at h1
            injection h1 with h1
            injection h1 with _ h1
            exact e2 h1.symm
        · go_wp2
          go_quiet (fail)
          go_wp2
          go_ret
          refine ⟨ret_bool ?_, hfr.drewN _⟩
          rw [eq_comm, decide_eq_false_iff_not]
          intro e
          have h1 := HPA.out
          rw [e, HPB.out] at h1
          injection h1 with h1
          injection h1 with h1 _
          exact e1 h1.symm
      · go_wp2
        go_ret
        refine ⟨ret_bool ?_, hfr⟩
        rw [eq_comm, decide_eq_true_iff]
        have h1 := HEQ.out
        have hl1 := HL.out
        rw [List.take_of_length_le (by omega), List.take_of_length_le (by omega)] at h1
        exact h1
  · have hne : ((la.length : Int) != (lb.length : Int)) = true := by rw [bne_iff_ne]; omega
    have HL := hide hl
    clear hl
    go_enter Try.func15, Try.ntmps15
    go_wp2
    go_ret
    refine ⟨ret_bool ?_, Fr.refl _ _⟩
    rw [eq_comm, decide_eq_false_iff_not]
    intro e
    exact HL.out (by rw [e])
end Go.Proofs.Ytgbkgiglagfciaa
