/- Walks: what the program and the reference of chapter 27 have alike: Target, ascending. -/
import Derived.Test.YtmkbahmjickoiaaDevM
namespace Go.Proofs.Ytmkbahmjickoiaa
open Go.RowKit

set_option maxHeartbeats 2000000 in
set_option maxRecDepth 100000 in
theorem rtarget27_any (d : PD) (s : Int) (wake : Bool) (w : World) :
    Calls Try.prog 15 #[.agg d.cells, .int .i64 s, .bool wake] w fun e w' => e = .returned (.tuple #[.int .i64 (targetM d s wake).1, .int .i64 (targetM d s wake).2]) ∧ Fr [] w w' := by
  have hbk := Blk.new w 33 d.cells
  have hfr : Fr [] w (w.alloc (.cells d.cells 33)) := (Fr.refl _ _).alloc _
  by_cases hs : s < 0 ∨ 5 < s
  · have hm : targetM d s wake = (0, 1) := by simp [targetM, hs]
    have HM := hide hm
    clear hm hbk
    rcases hs with hs | hs
    · go_enter Try.func15, Try.ntmps15
      go_wp2
      go_ret2
      exact ⟨by rw [HM.out]; rfl, hfr⟩
    · have hs0 : ¬ s < 0 := by omega
      go_enter Try.func15, Try.ntmps15
      go_wp2
      go_ret2
      exact ⟨by rw [HM.out]; rfl, hfr⟩
  · obtain ⟨k, hk⟩ := Int.eq_ofNat_of_zero_le (show 0 ≤ s by omega)
    subst hk
    have hk6 : k < 6 := by omega
    have c1 : (w.alloc (.cells d.cells 33)).cell? ⟨w.heap.size, 5 + k, none⟩ = some (.int .i64 (d.df k)) := (hbk.cell (5 + k)).trans (d.deep hk6)
    have c2 : (w.alloc (.cells d.cells 33)).cell? ⟨w.heap.size, 11, none⟩ = some (.int .i64 d.wd) := hbk.cell 11
    have c3 : (w.alloc (.cells d.cells 33)).cell? ⟨w.heap.size, 12, none⟩ = some (.int .i64 d.ws) := hbk.cell 12
    have h1 : (k : Int) < 6 := by omega
    have h2 : (k : Int) ≤ 5 := by omega
    have HMD := hide (show targetM d (k : Int) wake = if wake = false then (d.df k, 0) else if d.ws < (k : Int) then (0, 13) else (min (d.df k) d.wd, 0) by
      unfold targetM
      rw [if_neg hs, Int.toNat_natCast])
    clear hs hbk
    cases wake with
    | false =>
      rw [if_pos rfl] at HMD
      go_enter Try.func15, Try.ntmps15
      go_wp2
      go_ret2
      exact ⟨by rw [HMD.out]; rfl, hfr⟩
    | true =>
      rw [if_neg (by decide)] at HMD
      generalize d.df k = x at c1 HMD
      generalize d.wd = wd at c2 HMD
      by_cases hw : d.ws < (k : Int)
      · rw [if_pos hw] at HMD
        go_enter Try.func15, Try.ntmps15
        go_wp2
        go_ret2
        exact ⟨by rw [HMD.out]; rfl, hfr⟩
      · rw [if_neg hw] at HMD
        by_cases hle : x ≤ wd
        · rw [Int.min_eq_left hle] at HMD
          go_enter Try.func15, Try.ntmps15
          go_wp2
          go_quiet (fail)
          go_wp2
          all_goals
            go_ret2
            exact ⟨by first | (rw [HMD.out]; rfl) | (rw [HMD.out]; simp; omega), hfr.drewN _⟩
        · rw [Int.min_eq_right (by omega)] at HMD
          go_enter Try.func15, Try.ntmps15
          go_wp2
          go_quiet (fail)
          go_wp2
          all_goals
            go_ret2
            exact ⟨by first | (rw [HMD.out]; rfl) | (rw [HMD.out]; simp; omega), hfr.drewN _⟩

/-- Each element is greater than the one before it. -/
def ascB (l : List Int) : Bool := decide (∀ i, i < l.length - 1 → l.getD i 0 < l.getD (i + 1) 0)
def ascTo (l : List Int) (k : Nat) : Prop := ∀ i, i + 1 < k → i + 1 < l.length → l.getD i 0 < l.getD (i + 1) 0
theorem ascTo_succ {l : List Int} {k : Nat} {x y : Int} (hk : 1 ≤ k) (hx : l[k - 1]? = some x) (hy : l[k]? = some y) (h : ascTo l k) (hlt : x < y) : ascTo l (k + 1) := fun i hi hl => by
  by_cases e : i + 1 = k
  · have e' : i = k - 1 := by omega
    rw [e, e', List.getD_eq_getElem?_getD, List.getD_eq_getElem?_getD, hx, hy]
    exact hlt
  · exact h i (by omega) hl
theorem ascB_not {l : List Int} {k : Nat} {x y : Int} (hk : 1 ≤ k) (hx : l[k - 1]? = some x) (hy : l[k]? = some y) (hlt : ¬ x < y) : ascB l = false := decide_eq_false fun h => by
  have hl := (List.getElem?_eq_some_iff.1 hy).1
  have := h (k - 1) (by omega)
  rw [show k - 1 + 1 = k by omega, List.getD_eq_getElem?_getD, List.getD_eq_getElem?_getD, hx, hy] at this
  exact hlt this
theorem ascB_of {l : List Int} {k : Nat} (hk : l.length ≤ k) (h : ascTo l k) : ascB l = true := decide_eq_true fun i hi => h i (by omega) (by omega)
def AscRel (w : World) (l : List Int) (m : Nat) (i : Value) (wr : World) : Prop := ∃ k : Nat, 1 ≤ k ∧ k ≤ l.length + 1 ∧ i = .int .i64 k ∧ ascTo l k ∧ Fr [] w wr ∧ m = l.length + 1 - k
set_option maxHeartbeats 1000000 in
theorem asc27_any (A : Option Addr) (cp : Nat) (l : List Int) (w : World) (hr : Row w A (l.map (Value.int .i64))) (hn : l.length ≤ maxLen) :
    Calls Try.prog 26 #[.slice A l.length cp] w fun e w' => e = .returned (.bool (ascB l)) ∧ Fr [] w w' := by
  unfold maxLen at hn
  have HR := hide hr
  clear hr
  go_enter Try.func26, Try.ntmps26
  go_wp2
  go_loopg [3] (l.length) (fun m i wr => AscRel w l m i wr)
  case atStart => exact ⟨1, by omega, by omega, rfl, fun i hi _ => by omega, Fr.refl _ _, by omega⟩
  case round =>
    obtain ⟨k, hk0, hk, rfl, hall, hfr, hmm⟩ := hrel
    have HM := hide hmm
    have HALL := hide hall
    clear hmm hall
    by_cases hlt : k < l.length
    · obtain ⟨y, hy⟩ : ∃ y, l[k]? = some y := ⟨_, List.getElem?_eq_getElem hlt⟩
      obtain ⟨x, hx⟩ : ∃ x, l[k - 1]? = some x := ⟨_, List.getElem?_eq_getElem (by omega)⟩
      obtain ⟨ob, oo, rfl, c1⟩ := (HR.out.fr0 hfr).int hy
      obtain ⟨ob', oo', e, c2⟩ := (HR.out.fr0 hfr).int hx
      injection e with e
      injection e with e1 e2
      subst e1 e2
      have c2' : wr.cell? ⟨ob, oo + ((k : Int) - 1).toNat, none⟩ = some (.int .i64 x) := by rw [show ((k : Int) - 1).toNat = k - 1 by omega]; exact c2
      have hkl : (k : Int) < (l.length : Int) := by omega
      have hk1 : (0 : Int) ≤ (k : Int) - 1 := by omega
      have hk2 : (k : Int) - 1 < (l.length : Int) := by omega
      have HST := hide (ascTo_succ (k := k) (by omega) hx hy)
      have HNO := hide (fun h => ascB_not (k := k) (by omega) hx hy h)
      clear hx hy
      by_cases hle : y ≤ x
      · have HF := hide (HNO.out (by omega))
        go_wp2
        go_quiet (fail)
        go_wp2
        go_ret
        exact ⟨ret_bool HF.out.symm, hfr.drewN _⟩
      · go_wp2
        go_quiet (fail)
        go_wp2
        go_roundg (l.length - k)
        case measure => rw [HM.out]; omega
        case rel => exact ⟨k + 1, by omega, by omega, by go_num, HST.out HALL.out (by omega), hfr.drewN _, by omega⟩
    · have hkl : ¬ (k : Int) < (l.length : Int) := by omega
      have HF := hide (ascB_of (k := k) (by omega) HALL.out)
      go_wp2
      go_ret
      exact ⟨ret_bool HF.out.symm, hfr⟩
set_option maxHeartbeats 1000000 in
theorem rasc27_any (A : Option Addr) (cp : Nat) (l : List Int) (w : World) (hr : Row w A (l.map (Value.int .i64))) (hn : l.length ≤ maxLen) :
    Calls Try.prog 30 #[.slice A l.length cp] w fun e w' => e = .returned (.bool (ascB l)) ∧ Fr [] w w' := by
  unfold maxLen at hn
  have HR := hide hr
  clear hr
  go_enter Try.func30, Try.ntmps30
  go_wp2
  go_loopg [3] (l.length) (fun m i wr => AscRel w l m i wr)
  case atStart => exact ⟨1, by omega, by omega, rfl, fun i hi _ => by omega, Fr.refl _ _, by omega⟩
  case round =>
    obtain ⟨k, hk0, hk, rfl, hall, hfr, hmm⟩ := hrel
    have HM := hide hmm
    have HALL := hide hall
    clear hmm hall
    by_cases hlt : k < l.length
    · obtain ⟨y, hy⟩ : ∃ y, l[k]? = some y := ⟨_, List.getElem?_eq_getElem hlt⟩
      obtain ⟨x, hx⟩ : ∃ x, l[k - 1]? = some x := ⟨_, List.getElem?_eq_getElem (by omega)⟩
      obtain ⟨ob, oo, rfl, c1⟩ := (HR.out.fr0 hfr).int hy
      obtain ⟨ob', oo', e, c2⟩ := (HR.out.fr0 hfr).int hx
      injection e with e
      injection e with e1 e2
      subst e1 e2
      have c2' : wr.cell? ⟨ob, oo + ((k : Int) - 1).toNat, none⟩ = some (.int .i64 x) := by rw [show ((k : Int) - 1).toNat = k - 1 by omega]; exact c2
      have hkl : (k : Int) < (l.length : Int) := by omega
      have hk1 : (0 : Int) ≤ (k : Int) - 1 := by omega
      have hk2 : (k : Int) - 1 < (l.length : Int) := by omega
      have HST := hide (ascTo_succ (k := k) (by omega) hx hy)
      have HNO := hide (fun h => ascB_not (k := k) (by omega) hx hy h)
      clear hx hy
      by_cases hle : y ≤ x
      · have HF := hide (HNO.out (by omega))
        go_wp2
        go_quiet (fail)
        go_wp2
        go_ret
        exact ⟨ret_bool HF.out.symm, hfr.drewN _⟩
      · go_wp2
        go_quiet (fail)
        go_wp2
        go_roundg (l.length - k)
        case measure => rw [HM.out]; omega
        case rel => exact ⟨k + 1, by omega, by omega, by go_num, HST.out HALL.out (by omega), hfr.drewN _, by omega⟩
    · have hkl : ¬ (k : Int) < (l.length : Int) := by omega
      have HF := hide (ascB_of (k := k) (by omega) HALL.out)
      go_wp2
      go_ret
      exact ⟨ret_bool HF.out.symm, hfr⟩
end Go.Proofs.Ytmkbahmjickoiaa
