/- Walks: Equal over links. -/
import Derived.Test.YtnfhiadhpbojkaaFlat
import Derived.Test.YtnfhiadhpbojkaaGraM
import Derived.Test.YtnfhiadhpbojkaaProg
import Derived.Deep.QuietTactic
import Derived.BigQuiet
import Derived.Lib.Hide
import Derived.Deep.LoopGhost
import Derived.Test.YtnfhiadhpbojkaaBase
namespace Go.Proofs.Ytnfhiadhpbojkaa
open Go.RowKit

def EqRelL (w : World) (la lb : List (Int × Int)) (m : Nat) (i : Value) (wr : World) : Prop := ∃ k : Nat, k ≤ la.length ∧ i = .int .i64 (k : Int) ∧ la.take k = lb.take k ∧ Fr [] w wr ∧ m = la.length - k
set_option maxHeartbeats 2000000 in
theorem equalLinks_any (A B : Option Addr) (cp cq : Nat) (la lb : List (Int × Int)) (w : World) (ha : Row w A (pcs la)) (hb : Row w B (pcs lb)) (hn : la.length ≤ 100000) :
    Calls Try.prog 35 #[.slice A la.length cp, .slice B lb.length cq] w fun e w' => e = .returned (.bool (decide (la = lb))) ∧ Fr [] w w' := by
  have HA := hide ha
  have HB := hide hb
  clear ha hb
  by_cases hl : la.length = lb.length
  · have hne : ((la.length : Int) != (lb.length : Int)) = false := by simp [hl]
    have HL := hide hl
    clear hl
    go_enter Try.func35, Try.ntmps35
    go_wp2
    go_loopg [5] la.length (fun n i wr => EqRelL w la lb n i wr)
    case atStart => exact ⟨0, Nat.zero_le _, rfl, rfl, Fr.refl _ _, rfl⟩
    case round =>
      obtain ⟨k, hk, rfl, heq, hfr, hmm⟩ := hrel
      have HEQ := hide heq
      have HM := hide hmm
      clear heq hmm
      by_cases hlt : k < la.length
      · have hlt2 : k < lb.length := by rw [← HL.out]; exact hlt
        obtain ⟨pa, hpa⟩ : ∃ pa, la[k]? = some pa := ⟨_, List.getElem?_eq_getElem hlt⟩
        obtain ⟨pb, hpb⟩ : ∃ pb, lb[k]? = some pb := ⟨_, List.getElem?_eq_getElem hlt2⟩
        obtain ⟨ob, oo, rfl, c0, c1⟩ := (HA.out.fr0 hfr).link hpa
        obtain ⟨ob', oo', rfl, d0, d1⟩ := (HB.out.fr0 hfr).link hpb
        have HPA := hide hpa
        have HPB := hide hpb
        have hk1 : (k : Int) < (la.length : Int) := by omega
        have hk2 : (k : Int) < (lb.length : Int) := by omega
        have hdis : pa ≠ pb → la ≠ lb := fun hne e => hne (by
          rw [e, hpb] at hpa
          injection hpa with h
          exact h.symm)
        clear hpa hpb
        have HDIS := hide hdis
        clear hdis
        obtain ⟨a0, a1⟩ := pa
        obtain ⟨b0, b1⟩ := pb
        simp only at c0 c1 d0 d1
        by_cases e0 : a0 = b0
        · subst e0
          by_cases e1 : a1 = b1
          · subst e1
            go_wp2
            go_quiet (fail)
            go_wp2
            go_roundg (la.length - (k + 1))
            case measure => rw [HM.out]; omega
            case rel =>
              refine ⟨k + 1, by omega, by go_num, ?_, hfr.drewN _, rfl⟩
              rw [List.take_add_one, List.take_add_one, HPA.out, HPB.out, HEQ.out]
          · have HNE := hide (HDIS.out (by simp [e1]))
            go_wp2
            go_quiet (fail)
            go_wp2
            go_ret
            exact ⟨ret_bool (decide_eq_false HNE.out).symm, hfr.drewN _⟩
        · have HNE := hide (HDIS.out (by simp [e0]))
          go_wp2
          go_quiet (fail)
          go_wp2
          go_ret
          exact ⟨ret_bool (decide_eq_false HNE.out).symm, hfr.drewN _⟩
      · have hk1 : ¬ (k : Int) < (la.length : Int) := by omega
        go_wp2
        go_ret
        refine ⟨ret_bool ?_, hfr⟩
        rw [eq_comm, decide_eq_true_eq]
        have := HEQ.out
        rwa [List.take_of_length_le (by omega), List.take_of_length_le (by rw [← HL.out]; omega)] at this
  · have hne : ((la.length : Int) != (lb.length : Int)) = true := by simp; omega
    have hd : decide (la = lb) = false := decide_eq_false (fun e => hl (by rw [e]))
    have HD := hide hd
    clear hl hd
    go_enter Try.func35, Try.ntmps35
    go_wp2
    go_ret
    exact ⟨ret_bool HD.out.symm, Fr.refl _ _⟩
end Go.Proofs.Ytnfhiadhpbojkaa

/- help.Mod, walked. -/
namespace Go.Proofs.Ytnfhiadhpbojkaa
open Go.RowKit

def umod (v : Int) (n : Nat) : Nat := ((IntKind.u64.wrap v).toNat) % n
theorem umod_lt (v : Int) {n : Nat} (h : 0 < n) : umod v n < n := Nat.mod_lt _ h
theorem wrap_u64 (v : Int) : IntKind.u64.wrap v = v % 18446744073709551616 := by simp [IntKind.wrap, IntKind.signed, IntKind.bits]

set_option maxHeartbeats 400000 in
theorem mod_any (v : Int) (n : Nat) (w : World) (h0 : 0 < n) (h1 : n ≤ 4096) :
    Calls Try.prog 27 #[.int .i64 v, .int .i64 n] w fun e w' => e = .returned (.int .i64 (umod v n)) ∧ w = w' := by
  have hb : (1 : Int) ≤ (n : Int) := by omega
  have hb2 : (n : Int) ≤ 4096 := by omega
  clear h0 h1
  go_enter Try.func27, Try.ntmps27
  go_wp2
  go_ret
  refine ⟨ret_int ?_, rfl⟩
  have hw : 0 ≤ IntKind.u64.wrap v := by rw [wrap_u64]; omega
  have e : (IntKind.u64.wrap v).tmod (n : Int) = ((umod v n : Nat) : Int) := by
    obtain ⟨m, hm⟩ := Int.eq_ofNat_of_zero_le hw
    unfold umod
    rw [hm, Int.toNat_natCast]
    exact (Int.ofNat_tmod m n).symm
  rw [e]
  have := umod_lt v (n := n) (by omega)
  exact IntWalk.wrap64_in _ ⟨by omega, by omega⟩
end Go.Proofs.Ytnfhiadhpbojkaa

