/- Walks: the law's large, reverse. -/
import Derived.Test.YtdocdgghphhdpaaDevW12Mg
import Derived.Test.YtdocdgghphhdpaaMgDeviceAccPath0
import Derived.Test.YtdocdgghphhdpaaProg
import Derived.Lib.Hide
import Derived.Deep.LoopGhost
import Derived.Deep.QuietTactic
import Derived.BigQuiet
namespace Go.Proofs.Ytdocdgghphhdpaa
open Go.RowKit

def LgOk (raw : List DV) : Prop := raw.length ≤ 20 ∧ ∀ x ∈ raw, ∀ k, k < 4 → (x.rl k).length ≤ 20
def LgRet (w : World) (raw : List DV) (e : Ending) (w' : World) : Prop := ∃ b, e = .returned (.bool b) ∧ (b = false → LgOk raw) ∧ w = w'
def Lg1 (w : World) (raw : List DV) (m : Nat) (i : Value) (wr : World) : Prop := ∃ k : Nat, k ≤ raw.length ∧ i = .int .i64 (k : Int) ∧ (∀ j x, j < k → raw[j]? = some x → ∀ q, q < 4 → (x.rl q).length ≤ 20) ∧ w = wr ∧ m = raw.length - k
def Lg2 (w : World) (r : DV) (m : Nat) (i : Value) (wr : World) : Prop := ∃ k : Nat, k ≤ 4 ∧ i = .int .i64 (k : Int) ∧ (∀ q, q < k → (r.rl q).length ≤ 20) ∧ w = wr ∧ m = 4 - k
set_option maxHeartbeats 4000000 in
theorem large27_any (A : Option Addr) (cp : Nat) (raw : List DV) (w : World) (hr : DvsAt w A raw) (hl : raw.length ≤ maxLen) :
    Calls Try.prog 14 #[.slice A raw.length cp] w (LgRet w raw) := by
  unfold maxLen at hl
  have HR := hide hr
  clear hr
  by_cases h20 : 20 < raw.length
  · have h20' : (20 : Int) < (raw.length : Int) := by omega
    go_enter Try.func14, Try.ntmps14
    go_wp2
    go_ret
    exact ⟨true, rfl, (fun h => by cases h), rfl⟩
  · have h20' : ¬ (20 : Int) < (raw.length : Int) := by omega
    go_enter Try.func14, Try.ntmps14
    go_wp2
    go_loopg [3] raw.length (fun m i wr => Lg1 w raw m i wr)
    case atStart => exact ⟨0, by omega, rfl, fun j x hj => by omega, rfl, rfl⟩
    case round =>
      obtain ⟨k, hk, rfl, hall, rfl, hmm⟩ := hrel
      have HM := hide hmm
      have HALL := hide hall
      clear hmm hall
      by_cases hlt : k < raw.length
      · obtain ⟨r, hx⟩ : ∃ r, raw[k]? = some r := ⟨_, List.getElem?_eq_getElem hlt⟩
        have HX := hide hx
        have hkl : (k : Int) < (raw.length : Int) := by omega
        clear hx
        go_wp2
        go_loopg [4] 4 (fun m i wr => Lg2 w r m i wr)
        case atStart => exact ⟨0, by omega, rfl, fun j hj => by omega, rfl, rfl⟩
        case round =>
          obtain ⟨j, hj, rfl, hall, rfl, hmm⟩ := hrel
          have HM2 := hide hmm
          have HA2 := hide hall
          clear hmm hall
          by_cases hj4 : j < 4
          · obtain ⟨ob, oo, A', cp', rfl, cR, -⟩ := HR.out.rail HX.out hj4
            have hji : (j : Int) < 4 := by omega
            by_cases hb : 20 < (r.rl j).length
            · have hb' : (20 : Int) < ((r.rl j).length : Int) := by omega
              go_wp2
              go_ret
              exact ⟨true, rfl, (fun h => by cases h), rfl⟩
            · have hb' : ¬ (20 : Int) < ((r.rl j).length : Int) := by omega
              go_wp2
              go_roundg (4 - (j + 1))
              case measure => rw [HM2.out]; omega
              case rel =>
                refine ⟨j + 1, by omega, by go_num, fun q hq => ?_, rfl, rfl⟩
                by_cases e : q = j
                · subst e; omega
                · exact HA2.out q (by omega)
          · have hji : ¬ (j : Int) < 4 := by omega
            go_wp2
            go_roundg (raw.length - (k + 1))
            case measure => rw [HM.out]; omega
            case rel =>
              refine ⟨k + 1, by omega, by go_num, fun q x hq hx => ?_, rfl, rfl⟩
              by_cases e : q = k
              · subst e
                rw [HX.out] at hx
                injection hx with hx
                subst hx
                exact fun p hp => HA2.out p (by omega)
              · exact HALL.out q x (by omega) hx
      · have hkl : ¬ (k : Int) < (raw.length : Int) := by omega
        go_wp2
        go_ret
        refine ⟨false, rfl, fun _ => ⟨by omega, fun x hx q hq => ?_⟩, rfl⟩
        obtain ⟨j, hj⟩ := List.getElem?_of_mem hx
        exact HALL.out j x (by have := (List.getElem?_eq_some_iff.1 hj).1; omega) hj q hq
end Go.Proofs.Ytdocdgghphhdpaa

/- help.Equal at ints, walked. -/
namespace Go.Proofs.Ytdocdgghphhdpaa
open Go.RowKit

def EqRel {α : Type} (w : World) (la lb : List α) (m : Nat) (i : Value) (wr : World) : Prop := ∃ k : Nat, k ≤ la.length ∧ i = .int .i64 k ∧ la.take k = lb.take k ∧ Fr [] w wr ∧ m = la.length - k
set_option maxHeartbeats 1000000 in
theorem equalInts_any (A B : Option Addr) (cp cq : Nat) (la lb : List Int) (w : World) (ha : Row w A (la.map (Value.int .i64))) (hb : Row w B (lb.map (Value.int .i64))) (hn : la.length ≤ 4096) (_ : lb.length ≤ 4096) :
    Calls Try.prog 55 #[.slice A la.length cp, .slice B lb.length cq] w fun e w' => e = .returned (.bool (decide (la = lb))) ∧ Fr [] w w' := by
  have HA := hide ha
  have HB := hide hb
  clear ha hb
  by_cases hl : la.length = lb.length
  · have hne : ((la.length : Int) != (lb.length : Int)) = false := by simp [hl]
    have HL := hide hl
    clear hl
    go_enter Try.func55, Try.ntmps55
    go_wp2
    go_loopg [5] la.length (fun n i wr => EqRel w la lb n i wr)
    case atStart => exact ⟨0, Nat.zero_le _, rfl, rfl, Fr.refl _ _, rfl⟩
    case round =>
      obtain ⟨k, hk, rfl, heq, hfr, hmm⟩ := hrel
      have HEQ := hide heq
      have HM := hide hmm
      clear heq hmm
      by_cases hlt : k < la.length
      · have hlt2 : k < lb.length := by rw [← HL.out]; exact hlt
        obtain ⟨pa, hpa⟩ : ∃ pa, la[k]? = some pa := ⟨_, List.getElem?_eq_getElem hlt⟩
        obtain ⟨pb, hpb⟩ : ∃ pb, lb[k]? = some pb := ⟨_, List.getElem?_eq_getElem hlt2⟩
        obtain ⟨ob, oo, rfl, c1⟩ := (HA.out.fr0 hfr).int hpa
        obtain ⟨ob', oo', rfl, c3⟩ := (HB.out.fr0 hfr).int hpb
        have HPA := hide hpa
        have HPB := hide hpb
        clear hpa hpb
        have hk1 : (k : Int) < (la.length : Int) := by omega
        have hk2 : (k : Int) < (lb.length : Int) := by omega
        by_cases e1 : pa = pb
        · subst e1
          have eb : (pa != pa) = false := by simp
          go_wp2
          go_quiet (fail)
          go_wp2
          go_roundg (la.length - (k + 1))
          case measure => rw [HM.out]; omega
          case rel =>
            refine ⟨k + 1, by omega, by go_num, ?_, hfr.drewN _, rfl⟩
            rw [List.take_add_one, List.take_add_one, HPA.out, HPB.out, HEQ.out]
        · have eb : (pa != pb) = true := by simp [e1]
          go_wp2
          go_quiet (fail)
          go_wp2
          go_ret
          refine ⟨ret_bool ?_, hfr.drewN _⟩
          rw [eq_comm, decide_eq_false_iff_not]
          intro e
          have h1 := HPA.out
          rw [e, HPB.out] at h1
          injection h1 with h1
          exact e1 h1.symm
      · have hk1 : ¬ (k : Int) < (la.length : Int) := by omega
        go_wp2
        go_ret
        refine ⟨ret_bool ?_, hfr⟩
        rw [eq_comm, decide_eq_true_eq]
        have := HEQ.out
        rwa [List.take_of_length_le (by omega), List.take_of_length_le (by rw [← HL.out]; omega)] at this
  · have hne : ((la.length : Int) != (lb.length : Int)) = true := by simp; omega
    have hd : decide (la = lb) = false := decide_eq_false (fun e => hl (by rw [e]))
    have HD := hide hd
    clear hl hd
    go_enter Try.func55, Try.ntmps55
    go_wp2
    go_ret
    exact ⟨ret_bool HD.out.symm, Fr.refl _ _⟩
end Go.Proofs.Ytdocdgghphhdpaa

