/- Walks: Equal over rail operations. -/
import Derived.Test.YtdocdgghphhdpaaMgDeviceTree0
import Derived.Test.YtdocdgghphhdpaaMgDeviceTree7
import Derived.Test.YtdocdgghphhdpaaMgDeviceTree4
import Derived.Test.YtdocdgghphhdpaaProg
import Derived.Deep.QuietTactic
import Derived.BigQuiet
import Derived.Lib.Hide
import Derived.Deep.LoopGhost
namespace Go.Proofs.Ytdocdgghphhdpaa
open Go.RowKit

def EqRelO (w : World) (la lb : List ROp) (m : Nat) (i : Value) (wr : World) : Prop := ∃ k : Nat, k ≤ la.length ∧ i = .int .i64 (k : Int) ∧ la.take k = lb.take k ∧ Fr [] w wr ∧ m = la.length - k
theorem Row.rop {w : World} {A : Option Addr} {l : List ROp} (hr : Row w A (ropcs l)) {i : Nat} {x : ROp} (h : l[i]? = some x) :
    ∃ ob oo, A = some ⟨ob, oo, none⟩ ∧ w.cell? ⟨ob, oo + i * 4, none⟩ = some (.int .i64 (x.rail : Int)) ∧ w.cell? ⟨ob, oo + i * 4 + 1, none⟩ = some (.bool x.on) ∧ w.cell? ⟨ob, oo + i * 4 + 2, none⟩ = some (.int .u64 (x.st : Int)) ∧ w.cell? ⟨ob, oo + i * 4 + 3, none⟩ = some (.int .u64 (x.dn : Int)) := by
  obtain ⟨ob, oo, e, hc⟩ := Row.el (f := ropc) (m := 4) (l := l) (i := i) (a := x) (fun _ => rfl) (by omega) hr h
  exact ⟨ob, oo, e, hc 0 _ rfl, hc 1 _ rfl, hc 2 _ rfl, hc 3 _ rfl⟩
set_option maxHeartbeats 2000000 in
theorem equalRops_any (A B : Option Addr) (cp cq : Nat) (la lb : List ROp) (w : World) (ha : Row w A (ropcs la)) (hb : Row w B (ropcs lb)) (hn : la.length ≤ 100000) :
    Calls Try.prog 27 #[.slice A la.length cp, .slice B lb.length cq] w fun e w' => e = .returned (.bool (decide (la = lb))) ∧ Fr [] w w' := by
  have HA := hide ha
  have HB := hide hb
  clear ha hb
  by_cases hl : la.length = lb.length
  · have hne : ((la.length : Int) != (lb.length : Int)) = false := by simp [hl]
    have HL := hide hl
    clear hl
    go_enter Try.func27, Try.ntmps27
    go_wp2
    go_loopg [5] la.length (fun n i wr => EqRelO w la lb n i wr)
    case atStart => exact ⟨0, Nat.zero_le _, rfl, rfl, Fr.refl _ _, rfl⟩
    case round =>
      obtain ⟨k, hk, rfl, heq, hfr, hmm⟩ := hrel
      have HEQ := hide heq
      have HM := hide hmm
      clear heq hmm
      by_cases hlt : k < la.length
      · have hlt2 : k < lb.length := by rw [← HL.out]; exact hlt
        obtain ⟨pa, hpa⟩ : ∃ pa, la[k]? = some pa := ⟨_, List.getElem?_eq_getElem hlt⟩
        obtain ⟨pb, hpb⟩ : ∃ pb, lb[k]? = some pb := ⟨_, List.getElem?_eq_getElem hlt2⟩
        obtain ⟨ob, oo, rfl, c0, c1, c2, c3⟩ := (HA.out.fr0 hfr).rop hpa
        obtain ⟨ob', oo', rfl, d0, d1, d2, d3⟩ := (HB.out.fr0 hfr).rop hpb
        have HPA := hide hpa
        have HPB := hide hpb
        have hk1 : (k : Int) < (la.length : Int) := by omega
        have hk2 : (k : Int) < (lb.length : Int) := by omega
        have hdis : pa ≠ pb → la ≠ lb := fun hne e => hne (by
          rw [e, hpb] at hpa
          injection hpa with h
          exact h.symm)
        clear hpa hpb
        have HDIS := hide hdis
        clear hdis
        obtain ⟨a0, a1, a2, a3⟩ := pa
        obtain ⟨b0, b1, b2, b3⟩ := pb
        simp only at c0 c1 c2 c3 d0 d1 d2 d3
        by_cases e0 : a0 = b0
        · subst e0
          by_cases e1 : a1 = b1
          · subst e1
            by_cases e2 : a2 = b2
            · subst e2
              by_cases e3 : a3 = b3
              · subst e3
                go_wp2
                go_quiet (fail)
                go_wp2
                go_roundg (la.length - (k + 1))
                case measure => rw [HM.out]; omega
                case rel =>
                  refine ⟨k + 1, by omega, by go_num, ?_, hfr.drewN _, rfl⟩
                  rw [List.take_add_one, List.take_add_one, HPA.out, HPB.out, HEQ.out]
              · have HNE := hide (HDIS.out (by simp [e3]))
                go_wp2
                go_quiet (fail)
                go_wp2
                go_ret
                exact ⟨ret_bool (decide_eq_false HNE.out).symm, hfr.drewN _⟩
            · have HNE := hide (HDIS.out (by simp [e2]))
              go_wp2
              go_quiet (fail)
              go_wp2
              go_ret
              exact ⟨ret_bool (decide_eq_false HNE.out).symm, hfr.drewN _⟩
          · have HNE := hide (HDIS.out (by simp [e1]))
            go_wp2
            go_quiet (fail)
            go_wp2
            go_ret
            exact ⟨ret_bool (decide_eq_false HNE.out).symm, hfr.drewN _⟩
        · have HNE := hide (HDIS.out (by simp [e0]))
          go_wp2
          go_quiet (fail)
          go_wp2
          go_ret
          exact ⟨ret_bool (decide_eq_false HNE.out).symm, hfr.drewN _⟩
      · have hk1 : ¬ (k : Int) < (la.length : Int) := by omega
        go_wp2
        go_ret
        refine ⟨ret_bool ?_, hfr⟩
        rw [eq_comm, decide_eq_true_eq]
        have := HEQ.out
        rwa [List.take_of_length_le (by omega), List.take_of_length_le (by rw [← HL.out]; omega)] at this
  · have hne : ((la.length : Int) != (lb.length : Int)) = true := by simp; omega
    have hd : decide (la = lb) = false := decide_eq_false (fun e => hl (by rw [e]))
    have HD := hide hd
    clear hl hd
    go_enter Try.func27, Try.ntmps27
    go_wp2
    go_ret
    exact ⟨ret_bool HD.out.symm, Fr.refl _ _⟩
end Go.Proofs.Ytdocdgghphhdpaa

