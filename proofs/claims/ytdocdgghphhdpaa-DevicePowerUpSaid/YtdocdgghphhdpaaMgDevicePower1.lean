/- Walks: what the program and the reference of chapter 27 have alike: Target, ascending. -/
import Derived.Test.YtdocdgghphhdpaaMgDevicePower0
namespace Go.Proofs.Ytdocdgghphhdpaa
open Go.RowKit

/-- Each element is greater than the one before it. -/
def ascB (l : List Int) : Bool := decide (∀ i, i < l.length - 1 → l.getD i 0 < l.getD (i + 1) 0)
def ascTo (l : List Int) (k : Nat) : Prop := ∀ i, i + 1 < k → i + 1 < l.length → l.getD i 0 < l.getD (i + 1) 0
theorem ascTo_succ {l : List Int} {k : Nat} {x y : Int} (hk : 1 ≤ k) (hx : l[k - 1]? = some x) (hy : l[k]? = some y) (h : ascTo l k) (hlt : x < y) : ascTo l (k + 1) := fun i hi hl => by
  by_cases e : i + 1 = k
  · have e' : i = k - 1 := by omega
    rw [e, e', List.getD_eq_getElem?_getD, List.getD_eq_getElem?_getD, hx, hy]
    exact hlt
  · exact h i (by omega) hl
theorem ascB_not {l : List Int} {k : Nat} {x y : Int} (hk : 1 ≤ k) (hx : l[k - 1]? = some x) (hy : l[k]? = some y) (hlt : ¬ x < y) : ascB l = false := decide_eq_false fun h => by
  have hl := (List.getElem?_eq_some_iff.1 hy).1
  have := h (k - 1) (by omega)
  rw [show k - 1 + 1 = k by omega, List.getD_eq_getElem?_getD, List.getD_eq_getElem?_getD, hx, hy] at this
  exact hlt this
theorem ascB_of {l : List Int} {k : Nat} (hk : l.length ≤ k) (h : ascTo l k) : ascB l = true := decide_eq_true fun i hi => h i (by omega) (by omega)
def AscRel (w : World) (l : List Int) (m : Nat) (i : Value) (wr : World) : Prop := ∃ k : Nat, 1 ≤ k ∧ k ≤ l.length + 1 ∧ i = .int .i64 k ∧ ascTo l k ∧ Fr [] w wr ∧ m = l.length + 1 - k
set_option maxHeartbeats 1000000 in
theorem asc27_any (A : Option Addr) (cp : Nat) (l : List Int) (w : World) (hr : Row w A (l.map (Value.int .i64))) (hn : l.length ≤ maxLen) :
    Calls Try.prog 97 #[.slice A l.length cp] w fun e w' => e = .returned (.bool (ascB l)) ∧ Fr [] w w' := by
  unfold maxLen at hn
  have HR := hide hr
  clear hr
  go_enter Try.func97, Try.ntmps97
  go_wp2
  go_loopg [3] (l.length) (fun m i wr => AscRel w l m i wr)
  case atStart => exact ⟨1, by omega, by omega, rfl, fun i hi _ => by omega, Fr.refl _ _, by omega⟩
  case round =>
    obtain ⟨k, hk0, hk, rfl, hall, hfr, hmm⟩ := hrel
    have HM := hide hmm
    have HALL := hide hall
    clear hmm hall
    by_cases hlt : k < l.length
    · obtain ⟨y, hy⟩ : ∃ y, l[k]? = some y := ⟨_, List.getElem?_eq_getElem hlt⟩
      obtain ⟨x, hx⟩ : ∃ x, l[k - 1]? = some x := ⟨_, List.getElem?_eq_getElem (by omega)⟩
      obtain ⟨ob, oo, rfl, c1⟩ := (HR.out.fr0 hfr).int hy
      obtain ⟨ob', oo', e, c2⟩ := (HR.out.fr0 hfr).int hx
      injection e with e
      injection e with e1 e2
      subst e1 e2
      have c2' : wr.cell? ⟨ob, oo + ((k : Int) - 1).toNat, none⟩ = some (.int .i64 x) := by rw [show ((k : Int) - 1).toNat = k - 1 by omega]; exact c2
      have hkl : (k : Int) < (l.length : Int) := by omega
      have hk1 : (0 : Int) ≤ (k : Int) - 1 := by omega
      have hk2 : (k : Int) - 1 < (l.length : Int) := by omega
      have HST := hide (ascTo_succ (k := k) (by omega) hx hy)
      have HNO := hide (fun h => ascB_not (k := k) (by omega) hx hy h)
      clear hx hy
      by_cases hle : y ≤ x
      · have HF := hide (HNO.out (by omega))
        go_wp2
        go_quiet (fail)
        go_wp2
        go_ret
        exact ⟨ret_bool HF.out.symm, hfr.drewN _⟩
      · go_wp2
        go_quiet (fail)
        go_wp2
        go_roundg (l.length - k)
        case measure => rw [HM.out]; omega
        case rel => exact ⟨k + 1, by omega, by omega, by go_num, HST.out HALL.out (by omega), hfr.drewN _, by omega⟩
    · have hkl : ¬ (k : Int) < (l.length : Int) := by omega
      have HF := hide (ascB_of (k := k) (by omega) HALL.out)
      go_wp2
      go_ret
      exact ⟨ret_bool HF.out.symm, hfr⟩
set_option maxHeartbeats 1000000 in
theorem rasc27_any (A : Option Addr) (cp : Nat) (l : List Int) (w : World) (hr : Row w A (l.map (Value.int .i64))) (hn : l.length ≤ maxLen) :
    Calls Try.prog 111 #[.slice A l.length cp] w fun e w' => e = .returned (.bool (ascB l)) ∧ Fr [] w w' := by
  unfold maxLen at hn
  have HR := hide hr
  clear hr
  go_enter Try.func111, Try.ntmps111
  go_wp2
  go_loopg [3] (l.length) (fun m i wr => AscRel w l m i wr)
  case atStart => exact ⟨1, by omega, by omega, rfl, fun i hi _ => by omega, Fr.refl _ _, by omega⟩
  case round =>
    obtain ⟨k, hk0, hk, rfl, hall, hfr, hmm⟩ := hrel
    have HM := hide hmm
    have HALL := hide hall
    clear hmm hall
    by_cases hlt : k < l.length
    · obtain ⟨y, hy⟩ : ∃ y, l[k]? = some y := ⟨_, List.getElem?_eq_getElem hlt⟩
      obtain ⟨x, hx⟩ : ∃ x, l[k - 1]? = some x := ⟨_, List.getElem?_eq_getElem (by omega)⟩
      obtain ⟨ob, oo, rfl, c1⟩ := (HR.out.fr0 hfr).int hy
      obtain ⟨ob', oo', e, c2⟩ := (HR.out.fr0 hfr).int hx
      injection e with e
      injection e with e1 e2
      subst e1 e2
      have c2' : wr.cell? ⟨ob, oo + ((k : Int) - 1).toNat, none⟩ = some (.int .i64 x) := by rw [show ((k : Int) - 1).toNat = k - 1 by omega]; exact c2
      have hkl : (k : Int) < (l.length : Int) := by omega
      have hk1 : (0 : Int) ≤ (k : Int) - 1 := by omega
      have hk2 : (k : Int) - 1 < (l.length : Int) := by omega
      have HST := hide (ascTo_succ (k := k) (by omega) hx hy)
      have HNO := hide (fun h => ascB_not (k := k) (by omega) hx hy h)
      clear hx hy
      by_cases hle : y ≤ x
      · have HF := hide (HNO.out (by omega))
        go_wp2
        go_quiet (fail)
        go_wp2
        go_ret
        exact ⟨ret_bool HF.out.symm, hfr.drewN _⟩
      · go_wp2
        go_quiet (fail)
        go_wp2
        go_roundg (l.length - k)
        case measure => rw [HM.out]; omega
        case rel => exact ⟨k + 1, by omega, by omega, by go_num, HST.out HALL.out (by omega), hfr.drewN _, by omega⟩
    · have hkl : ¬ (k : Int) < (l.length : Int) := by omega
      have HF := hide (ascB_of (k := k) (by omega) HALL.out)
      go_wp2
      go_ret
      exact ⟨ret_bool HF.out.symm, hfr⟩
end Go.Proofs.Ytdocdgghphhdpaa

/- Walks: needed, needs, has. -/
namespace Go.Proofs.Ytdocdgghphhdpaa
open Go.RowKit

/-- The rails that a device needs in a state. -/
def PD.need (d : PD) (k : Nat) : Value := if k = 4 then .slice none 0 0 else d.rf k
set_option maxHeartbeats 1000000 in
set_option maxRecDepth 100000 in
theorem needed27_any (d : PD) (k : Nat) (hk : k ≤ 4) (w : World) :
    Calls Try.prog 96 #[.agg d.cells, .int .i64 (k : Int)] w fun e w' => e = .returned (d.need k) ∧ Fr [] w w' := by
  have hbk := Blk.new w 46 d.cells
  have hfr : Fr [] w (w.alloc (.cells d.cells 46)) := (Fr.refl _ _).alloc _
  by_cases h4 : k = 4
  · subst h4
    clear hbk
    go_enter Try.func96, Try.ntmps96
    go_wp2
    go_ret
    exact ⟨rfl, hfr⟩
  · have c1 : (w.alloc (.cells d.cells 46)).cell? ⟨w.heap.size, 1 + k, none⟩ = some (d.rf k) := (hbk.cell (1 + k)).trans (d.rail (by omega))
    have h1 : (k : Int) < 4 := by omega
    have h2 : ((k : Int) == 4) = false := by simp; omega
    have HN := hide (show d.need k = d.rf k by simp [PD.need, h4])
    clear hbk
    go_enter Try.func96, Try.ntmps96
    go_wp2
    go_ret
    exact ⟨by rw [HN.out]; rfl, hfr⟩
set_option maxHeartbeats 1000000 in
set_option maxRecDepth 100000 in
theorem needs27_any (d : PD) (k : Nat) (hk : k ≤ 4) (w : World) :
    Calls Try.prog 110 #[.agg d.cells, .int .i64 (k : Int)] w fun e w' => e = .returned (d.need k) ∧ Fr [] w w' := by
  have hbk := Blk.new w 46 d.cells
  have hfr : Fr [] w (w.alloc (.cells d.cells 46)) := (Fr.refl _ _).alloc _
  by_cases h4 : k = 4
  · subst h4
    clear hbk
    go_enter Try.func110, Try.ntmps110
    go_wp2
    go_ret
    exact ⟨rfl, hfr⟩
  · have c1 : (w.alloc (.cells d.cells 46)).cell? ⟨w.heap.size, 1 + k, none⟩ = some (d.rf k) := (hbk.cell (1 + k)).trans (d.rail (by omega))
    have h1 : (k : Int) < 4 := by omega
    have h2 : ((k : Int) == 4) = false := by simp; omega
    have HN := hide (show d.need k = d.rf k by simp [PD.need, h4])
    clear hbk
    go_enter Try.func110, Try.ntmps110
    go_wp2
    go_ret
    exact ⟨by rw [HN.out]; rfl, hfr⟩
def HasRel (w : World) (l : List Int) (v : Int) (m : Nat) (i : Value) (wr : World) : Prop := ∃ k : Nat, k ≤ l.length ∧ i = .int .i64 k ∧ v ∉ l.take k ∧ w = wr ∧ m = l.length - k
set_option maxHeartbeats 1000000 in
theorem has27_any (A : Option Addr) (cp : Nat) (l : List Int) (v : Int) (w : World) (hr : Row w A (l.map (Value.int .i64))) (hn : l.length ≤ maxLen) :
    Calls Try.prog 112 #[.slice A l.length cp, .int .i64 v] w fun e w' => e = .returned (.bool (decide (v ∈ l))) ∧ w = w' := by
  unfold maxLen at hn
  have HR := hide hr
  clear hr
  go_enter Try.func112, Try.ntmps112
  go_wp2
  go_loopg [5] l.length (fun m i wr => HasRel w l v m i wr)
  case atStart => exact ⟨0, by omega, rfl, by simp, rfl, rfl⟩
  case round =>
    obtain ⟨k, hk, rfl, hnp, rfl, hmm⟩ := hrel
    have HM := hide hmm
    have HNP := hide hnp
    clear hmm hnp
    by_cases hlt : k < l.length
    · obtain ⟨y, hy⟩ : ∃ y, l[k]? = some y := ⟨_, List.getElem?_eq_getElem hlt⟩
      obtain ⟨ob, oo, rfl, c1⟩ := HR.out.int hy
      have hkl : (k : Int) < (l.length : Int) := by omega
      have HY := hide hy
      have HTS : Hid (l.take (k + 1) = l.take k ++ [y]) := hide (by rw [List.take_add_one, hy]; rfl)
      clear hy
      by_cases e : y = v
      · subst e
        have eb : (y == y) = true := by simp
        go_wp2
        go_ret
        exact ⟨ret_bool (decide_eq_true (List.mem_of_getElem? HY.out)).symm, rfl⟩
      · have eb : (y == v) = false := by simp [e]
        go_wp2
        go_roundg (l.length - (k + 1))
        case measure => rw [HM.out]; omega
        case rel =>
          refine ⟨k + 1, by omega, by go_num, ?_, rfl, rfl⟩
          rw [HTS.out]
          intro h
          rcases List.mem_append.1 h with h | h
          · exact HNP.out h
          · exact e (List.mem_singleton.1 h).symm
    · have hkl : ¬ (k : Int) < (l.length : Int) := by omega
      go_wp2
      go_ret
      refine ⟨ret_bool (decide_eq_false ?_).symm, rfl⟩
      have := HNP.out
      rwa [List.take_of_length_le (by omega)] at this
end Go.Proofs.Ytdocdgghphhdpaa

