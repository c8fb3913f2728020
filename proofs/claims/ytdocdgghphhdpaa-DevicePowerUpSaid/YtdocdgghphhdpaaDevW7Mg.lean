/- Walks: slices.IsSorted at ints. -/
import Derived.Test.YtdocdgghphhdpaaDevW3Mg
namespace Go.Proofs.Ytdocdgghphhdpaa
open Go.RowKit

theorem quiet_id27 {P : Program} {f : FuncId} {args : Array Value} {w : World} {n : Nat} {v : Value} (h : Calls P f args (w.drewN n) fun e w' => e = .returned v ∧ w.drewN n = w') :
    Calls P f args (w.drewN n) fun e w'' => e = .returned v ∧ ∃ m, w'' = w.drewN m := h.mono fun _ _ ⟨he, hw⟩ => ⟨he, n, hw.symm⟩
def srtB (l : List Int) : Bool := decide (∀ i, i < l.length - 1 → l.getD i 0 ≤ l.getD (i + 1) 0)
/-- From k on the list is sorted. -/
def srtFrom (l : List Int) (k : Nat) : Prop := ∀ i, k ≤ i → i < l.length - 1 → l.getD i 0 ≤ l.getD (i + 1) 0
def SrRel (w : World) (l : List Int) (m : Nat) (i : Value) (wr : World) : Prop := ∃ k : Nat, k ≤ l.length - 1 ∧ i = .int .i64 ((k : Int) - (if l.length = 0 then 1 else 0)) ∧ srtFrom l k ∧ Fr [] w wr ∧ m = k
set_option maxHeartbeats 1000000 in
theorem isSorted_any (A : Option Addr) (cp : Nat) (l : List Int) (w : World) (hr : Row w A (l.map (Value.int .i64))) (hn : l.length ≤ 4096) (h0 : 0 < l.length) :
    Calls Try.prog 125 #[.slice A l.length cp] w fun e w' => e = .returned (.bool (srtB l)) ∧ Fr [] w w' := by
  have HR := hide hr
  have hz : ¬ l.length = 0 := by omega
  have hl1 : (l.length : Int) - 1 = ((l.length - 1 : Nat) : Int) := by omega
  clear hr
  go_enter Try.func125, Try.ntmps125
  go_wp2
  go_loopg [3] (l.length - 1) (fun m i wr => SrRel w l m i wr)
  case atStart => exact ⟨l.length - 1, by omega, by rw [if_neg hz]; first | done | rfl | (congr 1; omega), fun i h1 h2 => by omega, Fr.refl _ _, rfl⟩
  case round =>
    obtain ⟨k, hk, rfl, hs, hfr, hmm⟩ := hrel
    have HM := hide hmm
    have HS := hide hs
    rw [if_neg hz]
    have hk0 : (k : Int) - 0 = (k : Int) := by omega
    rw [hk0]
    clear hmm hs hl1 hk0
    by_cases hp : 0 < k
    · obtain ⟨y, hy⟩ : ∃ y, l[k]? = some y := ⟨_, List.getElem?_eq_getElem (by omega)⟩
      obtain ⟨x, hx⟩ : ∃ x, l[k - 1]? = some x := ⟨_, List.getElem?_eq_getElem (by omega)⟩
      obtain ⟨ob, oo, rfl, c1⟩ := (HR.out.fr0 hfr).int hy
      obtain ⟨ob', oo', e, c2⟩ := (HR.out.fr0 hfr).int hx
      injection e with e
      injection e with e1 e2
      subst e1 e2
      have c2' : wr.cell? ⟨ob, oo + ((k : Int) - 1).toNat, none⟩ = some (.int .i64 x) := by rw [show ((k : Int) - 1).toNat = k - 1 by omega]; exact c2
      have hkl : (k : Int) < (l.length : Int) := by omega
      have hk1 : (0 : Int) ≤ (k : Int) - 1 := by omega
      have hk2 : (k : Int) - 1 < (l.length : Int) := by omega
      have hkp : (0 : Int) < (k : Int) := by omega
      have HX := hide hx
      have HY := hide hy
      clear hx hy
      by_cases hlt : y < x
      · have HF : Hid (srtB l = false) := hide (decide_eq_false fun h => by
          have := h (k - 1) (by omega)
          rw [show k - 1 + 1 = k by omega, List.getD_eq_getElem?_getD, List.getD_eq_getElem?_getD, HX.out, HY.out] at this
          simp at this
          omega)
        have hd : decide (y < x) = true := decide_eq_true hlt
        go_wp2
        go_quiet ((go_at_call 127; exact quiet_id27 (less_any _ _ _)))
        go_wp2
        go_ret
        exact ⟨ret_bool HF.out.symm, hfr.drewN _⟩
      · have hd : decide (y < x) = false := decide_eq_false hlt
        go_wp2
        go_quiet ((go_at_call 127; exact quiet_id27 (less_any _ _ _)))
        go_wp2
        go_roundg (k - 1)
        case measure => rw [HM.out]; omega
        case rel =>
          refine ⟨k - 1, by omega, by rw [if_neg hz]; congr 1; omega, fun i h1 h2 => ?_, hfr.drewN _, rfl⟩
          by_cases e : i = k - 1
          · rw [e, show k - 1 + 1 = k by omega, List.getD_eq_getElem?_getD, List.getD_eq_getElem?_getD, HX.out, HY.out]
            simp
            omega
          · exact HS.out i (by omega) h2
    · have hkp : ¬ (0 : Int) < (k : Int) := by omega
      have HF : Hid (srtB l = true) := hide (decide_eq_true fun i hi => HS.out i (by omega) hi)
      go_wp2
      go_ret
      exact ⟨ret_bool HF.out.symm, hfr⟩
end Go.Proofs.Ytdocdgghphhdpaa

