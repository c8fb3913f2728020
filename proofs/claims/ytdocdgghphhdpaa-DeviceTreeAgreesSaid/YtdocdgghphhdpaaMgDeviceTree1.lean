/- Walks: what the program and the reference of chapter 27 have alike: Target, ascending. -/
import Derived.Test.YtdocdgghphhdpaaMgDeviceTree0
namespace Go.Proofs.Ytdocdgghphhdpaa
open Go.RowKit

/-- Each element is greater than the one before it. -/
def ascB (l : List Int) : Bool := decide (∀ i, i < l.length - 1 → l.getD i 0 < l.getD (i + 1) 0)
def ascTo (l : List Int) (k : Nat) : Prop := ∀ i, i + 1 < k → i + 1 < l.length → l.getD i 0 < l.getD (i + 1) 0
theorem ascTo_succ {l : List Int} {k : Nat} {x y : Int} (hk : 1 ≤ k) (hx : l[k - 1]? = some x) (hy : l[k]? = some y) (h : ascTo l k) (hlt : x < y) : ascTo l (k + 1) := fun i hi hl => by
  by_cases e : i + 1 = k
  · have e' : i = k - 1 := by omega
    rw [e, e', List.getD_eq_getElem?_getD, List.getD_eq_getElem?_getD, hx, hy]
    exact hlt
  · exact h i (by omega) hl
theorem ascB_not {l : List Int} {k : Nat} {x y : Int} (hk : 1 ≤ k) (hx : l[k - 1]? = some x) (hy : l[k]? = some y) (hlt : ¬ x < y) : ascB l = false := decide_eq_false fun h => by
  have hl := (List.getElem?_eq_some_iff.1 hy).1
  have := h (k - 1) (by omega)
  rw [show k - 1 + 1 = k by omega, List.getD_eq_getElem?_getD, List.getD_eq_getElem?_getD, hx, hy] at this
  exact hlt this
theorem ascB_of {l : List Int} {k : Nat} (hk : l.length ≤ k) (h : ascTo l k) : ascB l = true := decide_eq_true fun i hi => h i (by omega) (by omega)
def AscRel (w : World) (l : List Int) (m : Nat) (i : Value) (wr : World) : Prop := ∃ k : Nat, 1 ≤ k ∧ k ≤ l.length + 1 ∧ i = .int .i64 k ∧ ascTo l k ∧ Fr [] w wr ∧ m = l.length + 1 - k
set_option maxHeartbeats 1000000 in
theorem asc27_any (A : Option Addr) (cp : Nat) (l : List Int) (w : World) (hr : Row w A (l.map (Value.int .i64))) (hn : l.length ≤ maxLen) :
    Calls Try.prog 97 #[.slice A l.length cp] w fun e w' => e = .returned (.bool (ascB l)) ∧ Fr [] w w' := by
  unfold maxLen at hn
  have HR := hide hr
  clear hr
  go_enter Try.func97, Try.ntmps97
  go_wp2
  go_loopg [3] (l.length) (fun m i wr => AscRel w l m i wr)
  case atStart => exact ⟨1, by omega, by omega, rfl, fun i hi _ => by omega, Fr.refl _ _, by omega⟩
  case round =>
    obtain ⟨k, hk0, hk, rfl, hall, hfr, hmm⟩ := hrel
    have HM := hide hmm
    have HALL := hide hall
    clear hmm hall
    by_cases hlt : k < l.length
    · obtain ⟨y, hy⟩ : ∃ y, l[k]? = some y := ⟨_, List.getElem?_eq_getElem hlt⟩
      obtain ⟨x, hx⟩ : ∃ x, l[k - 1]? = some x := ⟨_, List.getElem?_eq_getElem (by omega)⟩
      obtain ⟨ob, oo, rfl, c1⟩ := (HR.out.fr0 hfr).int hy
      obtain ⟨ob', oo', e, c2⟩ := (HR.out.fr0 hfr).int hx
      injection e with e
      injection e with e1 e2
      subst e1 e2
      have c2' : wr.cell? ⟨ob, oo + ((k : Int) - 1).toNat, none⟩ = some (.int .i64 x) := by rw [show ((k : Int) - 1).toNat = k - 1 by omega]; exact c2
      have hkl : (k : Int) < (l.length : Int) := by omega
      have hk1 : (0 : Int) ≤ (k : Int) - 1 := by omega
      have hk2 : (k : Int) - 1 < (l.length : Int) := by omega
      have HST := hide (ascTo_succ (k := k) (by omega) hx hy)
      have HNO := hide (fun h => ascB_not (k := k) (by omega) hx hy h)
      clear hx hy
      by_cases hle : y ≤ x
      · have HF := hide (HNO.out (by omega))
        go_wp2
        go_quiet (fail)
        go_wp2
        go_ret
        exact ⟨ret_bool HF.out.symm, hfr.drewN _⟩
      · go_wp2
        go_quiet (fail)
        go_wp2
        go_roundg (l.length - k)
        case measure => rw [HM.out]; omega
        case rel => exact ⟨k + 1, by omega, by omega, by go_num, HST.out HALL.out (by omega), hfr.drewN _, by omega⟩
    · have hkl : ¬ (k : Int) < (l.length : Int) := by omega
      have HF := hide (ascB_of (k := k) (by omega) HALL.out)
      go_wp2
      go_ret
      exact ⟨ret_bool HF.out.symm, hfr⟩
set_option maxHeartbeats 1000000 in
theorem rasc27_any (A : Option Addr) (cp : Nat) (l : List Int) (w : World) (hr : Row w A (l.map (Value.int .i64))) (hn : l.length ≤ maxLen) :
    Calls Try.prog 111 #[.slice A l.length cp] w fun e w' => e = .returned (.bool (ascB l)) ∧ Fr [] w w' := by
  unfold maxLen at hn
  have HR := hide hr
  clear hr
  go_enter Try.func111, Try.ntmps111
  go_wp2
  go_loopg [3] (l.length) (fun m i wr => AscRel w l m i wr)
  case atStart => exact ⟨1, by omega, by omega, rfl, fun i hi _ => by omega, Fr.refl _ _, by omega⟩
  case round =>
    obtain ⟨k, hk0, hk, rfl, hall, hfr, hmm⟩ := hrel
    have HM := hide hmm
    have HALL := hide hall
    clear hmm hall
    by_cases hlt : k < l.length
    · obtain ⟨y, hy⟩ : ∃ y, l[k]? = some y := ⟨_, List.getElem?_eq_getElem hlt⟩
      obtain ⟨x, hx⟩ : ∃ x, l[k - 1]? = some x := ⟨_, List.getElem?_eq_getElem (by omega)⟩
      obtain ⟨ob, oo, rfl, c1⟩ := (HR.out.fr0 hfr).int hy
      obtain ⟨ob', oo', e, c2⟩ := (HR.out.fr0 hfr).int hx
      injection e with e
      injection e with e1 e2
      subst e1 e2
      have c2' : wr.cell? ⟨ob, oo + ((k : Int) - 1).toNat, none⟩ = some (.int .i64 x) := by rw [show ((k : Int) - 1).toNat = k - 1 by omega]; exact c2
      have hkl : (k : Int) < (l.length : Int) := by omega
      have hk1 : (0 : Int) ≤ (k : Int) - 1 := by omega
      have hk2 : (k : Int) - 1 < (l.length : Int) := by omega
      have HST := hide (ascTo_succ (k := k) (by omega) hx hy)
      have HNO := hide (fun h => ascB_not (k := k) (by omega) hx hy h)
      clear hx hy
      by_cases hle : y ≤ x
      · have HF := hide (HNO.out (by omega))
        go_wp2
        go_quiet (fail)
        go_wp2
        go_ret
        exact ⟨ret_bool HF.out.symm, hfr.drewN _⟩
      · go_wp2
        go_quiet (fail)
        go_wp2
        go_roundg (l.length - k)
        case measure => rw [HM.out]; omega
        case rel => exact ⟨k + 1, by omega, by omega, by go_num, HST.out HALL.out (by omega), hfr.drewN _, by omega⟩
    · have hkl : ¬ (k : Int) < (l.length : Int) := by omega
      have HF := hide (ascB_of (k := k) (by omega) HALL.out)
      go_wp2
      go_ret
      exact ⟨ret_bool HF.out.symm, hfr⟩
end Go.Proofs.Ytdocdgghphhdpaa

/- Walks: needed, needs, has. -/
namespace Go.Proofs.Ytdocdgghphhdpaa
open Go.RowKit

/-- The rails that a device needs in a state. -/
def PD.need (d : PD) (k : Nat) : Value := if k = 4 then .slice none 0 0 else d.rf k
set_option maxHeartbeats 1000000 in
set_option maxRecDepth 100000 in
theorem needed27_any (d : PD) (k : Nat) (hk : k ≤ 4) (w : World) :
    Calls Try.prog 96 #[.agg d.cells, .int .i64 (k : Int)] w fun e w' => e = .returned (d.need k) ∧ Fr [] w w' := by
  have hbk := Blk.new w 46 d.cells
  have hfr : Fr [] w (w.alloc (.cells d.cells 46)) := (Fr.refl _ _).alloc _
  by_cases h4 : k = 4
  · subst h4
    clear hbk
    go_enter Try.func96, Try.ntmps96
    go_wp2
    go_ret
    exact ⟨rfl, hfr⟩
  · have c1 : (w.alloc (.cells d.cells 46)).cell? ⟨w.heap.size, 1 + k, none⟩ = some (d.rf k) := (hbk.cell (1 + k)).trans (d.rail (by omega))
    have h1 : (k : Int) < 4 := by omega
    have h2 : ((k : Int) == 4) = false := by simp; omega
    have HN := hide (show d.need k = d.rf k by simp [PD.need, h4])
    clear hbk
    go_enter Try.func96, Try.ntmps96
    go_wp2
    go_ret
    exact ⟨by rw [HN.out]; rfl, hfr⟩
set_option maxHeartbeats 1000000 in
set_option maxRecDepth 100000 in
theorem needs27_any (d : PD) (k : Nat) (hk : k ≤ 4) (w : World) :
    Calls Try.prog 110 #[.agg d.cells, .int .i64 (k : Int)] w fun e w' => e = .returned (d.need k) ∧ Fr [] w w' := by
  have hbk := Blk.new w 46 d.cells
  have hfr : Fr [] w (w.alloc (.cells d.cells 46)) := (Fr.refl _ _).alloc _
  by_cases h4 : k = 4
  · subst h4
    clear hbk
    go_enter Try.func110, Try.ntmps110
    go_wp2
    go_ret
    exact ⟨rfl, hfr⟩
  · have c1 : (w.alloc (.cells d.cells 46)).cell? ⟨w.heap.size, 1 + k, none⟩ = some (d.rf k) := (hbk.cell (1 + k)).trans (d.rail (by omega))
    have h1 : (k : Int) < 4 := by omega
    have h2 : ((k : Int) == 4) = false := by simp; omega
    have HN := hide (show d.need k = d.rf k by simp [PD.need, h4])
    clear hbk
    go_enter Try.func110, Try.ntmps110
    go_wp2
    go_ret
    exact ⟨by rw [HN.out]; rfl, hfr⟩
def HasRel (w : World) (l : List Int) (v : Int) (m : Nat) (i : Value) (wr : World) : Prop := ∃ k : Nat, k ≤ l.length ∧ i = .int .i64 k ∧ v ∉ l.take k ∧ w = wr ∧ m = l.length - k
set_option maxHeartbeats 1000000 in
theorem has27_any (A : Option Addr) (cp : Nat) (l : List Int) (v : Int) (w : World) (hr : Row w A (l.map (Value.int .i64))) (hn : l.length ≤ maxLen) :
    Calls Try.prog 112 #[.slice A l.length cp, .int .i64 v] w fun e w' => e = .returned (.bool (decide (v ∈ l))) ∧ w = w' := by
  unfold maxLen at hn
  have HR := hide hr
  clear hr
  go_enter Try.func112, Try.ntmps112
  go_wp2
  go_loopg [5] l.length (fun m i wr => HasRel w l v m i wr)
  case atStart => exact ⟨0, by omega, rfl, by simp, rfl, rfl⟩
  case round =>
    obtain ⟨k, hk, rfl, hnp, rfl, hmm⟩ := hrel
    have HM := hide hmm
    have HNP := hide hnp
    clear hmm hnp
    by_cases hlt : k < l.length
    · obtain ⟨y, hy⟩ : ∃ y, l[k]? = some y := ⟨_, List.getElem?_eq_getElem hlt⟩
      obtain ⟨ob, oo, rfl, c1⟩ := HR.out.int hy
      have hkl : (k : Int) < (l.length : Int) := by omega
      have HY := hide hy
      have HTS : Hid (l.take (k + 1) = l.take k ++ [y]) := hide (by rw [List.take_add_one, hy]; rfl)
      clear hy
      by_cases e : y = v
      · subst e
        have eb : (y == y) = true := by simp
        go_wp2
        go_ret
        exact ⟨ret_bool (decide_eq_true (List.mem_of_getElem? HY.out)).symm, rfl⟩
      · have eb : (y == v) = false := by simp [e]
        go_wp2
        go_roundg (l.length - (k + 1))
        case measure => rw [HM.out]; omega
        case rel =>
          refine ⟨k + 1, by omega, by go_num, ?_, rfl, rfl⟩
          rw [HTS.out]
          intro h
          rcases List.mem_append.1 h with h | h
          · exact HNP.out h
          · exact e (List.mem_singleton.1 h).symm
    · have hkl : ¬ (k : Int) < (l.length : Int) := by omega
      go_wp2
      go_ret
      refine ⟨ret_bool (decide_eq_false ?_).symm, rfl⟩
      have := HNP.out
      rwa [List.take_of_length_le (by omega)] at this
end Go.Proofs.Ytdocdgghphhdpaa

/- Walks: slices.BinarySearch at ints, cmp.Less, isNaN. -/
namespace Go.Proofs.Ytdocdgghphhdpaa
open Go.RowKit

set_option maxHeartbeats 400000 in
theorem nan_s (x : Int) (w : World) : Calls Try.prog 128 #[.int .i64 x] w fun e w' => e = .returned (.bool false) ∧ w = w' := by
  have eb : (x != x) = false := by simp
  go_enter Try.func128, Try.ntmps128
  go_wp2
  go_ret
  exact ⟨rfl, rfl⟩
set_option maxHeartbeats 400000 in
theorem nan_c (x : Int) (w : World) : Calls Try.prog 129 #[.int .i64 x] w fun e w' => e = .returned (.bool false) ∧ w = w' := by
  have eb : (x != x) = false := by simp
  go_enter Try.func129, Try.ntmps129
  go_wp2
  go_ret
  exact ⟨rfl, rfl⟩
set_option maxHeartbeats 400000 in
theorem less_any (x y : Int) (w : World) : Calls Try.prog 127 #[.int .i64 x, .int .i64 y] w fun e w' => e = .returned (.bool (decide (x < y))) ∧ w = w' := by
  go_enter Try.func127, Try.ntmps127
  go_wp2_with fail
  refine (nan_c x w).mono ?_
  rintro e w1 ⟨rfl, rfl⟩
  go_wp2
  go_ret
  exact ⟨rfl, rfl⟩
/-- Sorted in the sense that elements further on are greater. -/
def Asc (l : List Int) : Prop := l.Pairwise (· < ·)
theorem asc_of {l : List Int} (h : ascB l = true) : Asc l := by
  have h1 := of_decide_eq_true h
  have h2 : ∀ d i, i + d + 1 < l.length → l.getD i 0 < l.getD (i + d + 1) 0 := fun d => by
    induction d with
    | zero => exact fun i hi => h1 i (by omega)
    | succ d ih =>
      intro i hi
      have a := ih i (by omega)
      have b := h1 (i + d + 1) (by omega)
      rw [show i + (d + 1) + 1 = i + d + 1 + 1 by omega]
      omega
  unfold Asc
  rw [List.pairwise_iff_getElem]
  intro i j hi hj hij
  have := h2 (j - i - 1) i (by omega)
  rw [show i + (j - i - 1) + 1 = j by omega, List.getD_eq_getElem?_getD, List.getD_eq_getElem?_getD, List.getElem?_eq_getElem hi, List.getElem?_eq_getElem hj] at this
  exact this
def BsRel (w : World) (l : List Int) (v : Int) (m : Nat) (vi vj : Value) (wr : World) : Prop :=
  ∃ i j : Nat, i ≤ j ∧ j ≤ l.length ∧ vi = .int .i64 i ∧ vj = .int .i64 j ∧ (∀ (t : Nat) (x : Int), l[t]? = some x → t < i → x < v) ∧ (∀ (t : Nat) (x : Int), l[t]? = some x → j ≤ t → v ≤ x) ∧ w = wr ∧ m = j - i
def BsRet (w : World) (l : List Int) (v : Int) (e : Ending) (w' : World) : Prop := ∃ i : Int, e = .returned (.tuple #[.int .i64 i, .bool (decide (v ∈ l))]) ∧ Fr [] w w'
set_option maxHeartbeats 2000000 in
theorem bsearch_any (A : Option Addr) (cp : Nat) (l : List Int) (v : Int) (w : World) (hr : Row w A (l.map (Value.int .i64))) (hn : l.length ≤ 4096) (ha : Asc l) :
    Calls Try.prog 124 #[.slice A l.length cp, .int .i64 v] w (BsRet w l v) := by
  have HR := hide hr
  have HA := hide ha
  clear hr ha
  go_enter Try.func124, Try.ntmps124
  go_wp2
  go_loopg [7, 8] l.length (fun m vi vj wr => BsRel w l v m vi vj wr)
  case atStart => exact ⟨0, l.length, by omega, by omega, rfl, rfl, fun t x _ h => by omega, (fun t x h1 h2 => by have := (List.getElem?_eq_some_iff.1 h1).1; omega), rfl, rfl⟩
  case round =>
    obtain ⟨i, j, hij, hjl, rfl, rfl, hlo, hhi, rfl, hmm⟩ := hrel
    have HM := hide hmm
    have HLO := hide hlo
    have HHI := hide hhi
    clear hmm hlo hhi
    by_cases hlt : i < j
    · have hl' : (i : Int) < (j : Int) := by omega
      obtain ⟨h, hh⟩ : ∃ h, h = (i + j) / 2 := ⟨_, rfl⟩
      have hb : i ≤ h ∧ h < j := by omega
      obtain ⟨y, hy⟩ : ∃ y, l[h]? = some y := ⟨_, List.getElem?_eq_getElem (by omega)⟩
      obtain ⟨ob, oo, e, c1⟩ := HR.out.int hy
      subst e
      have hi2 : ((i : Int) + (j : Int)) / 2 = (h : Int) := by omega
      have hhl : (h : Int) < (l.length : Int) := by omega
      have HY := hide hy
      clear hy hh
      go_wp2_with fail
      refine (less_any y v w).mono ?_
      rintro e w1 ⟨rfl, rfl⟩
      have hmono : ∀ (t u : Nat) (x z : Int), l[t]? = some x → l[u]? = some z → t < u → x < z := fun t u x z hx hz htu => by
        have hp := HA.out
        unfold Asc at hp
        rw [List.pairwise_iff_getElem] at hp
        obtain ⟨h1, e1⟩ := List.getElem?_eq_some_iff.1 hx
        obtain ⟨h2, e2⟩ := List.getElem?_eq_some_iff.1 hz
        have := hp t u h1 h2 htu
        rw [e1, e2] at this
        exact this
      have HMO := hide hmono
      clear hmono
      by_cases hyv : y < v
      · rw [decide_eq_true hyv]
        go_wp2
        go_roundg (j - (h + 1))
        case measure => rw [HM.out]; omega
        case rel =>
          refine ⟨h + 1, j, by omega, hjl, by go_num, rfl, fun t x hx ht => ?_, HHI.out, rfl, rfl⟩
          by_cases e : t = h
          · subst e
            rw [HY.out] at hx
            injection hx with hx
            rw [← hx]; exact hyv
          · have := HMO.out t h x y hx HY.out (by omega)
            omega
      · rw [decide_eq_false hyv]
        go_wp2
        go_roundg (h - i)
        case measure => rw [HM.out]; omega
        case rel =>
          refine ⟨i, h, by omega, by omega, rfl, rfl, HLO.out, fun t x hx ht => ?_, rfl, rfl⟩
          by_cases e : t = h
          · subst e
            rw [HY.out] at hx
            injection hx with hx
            omega
          · have := HMO.out h t y x HY.out hx (by omega)
            omega
    · have hl' : ¬ (i : Int) < (j : Int) := by omega
      obtain rfl : i = j := by omega
      by_cases hin : i < l.length
      · obtain ⟨y, hy⟩ : ∃ y, l[i]? = some y := ⟨_, List.getElem?_eq_getElem hin⟩
        obtain ⟨ob, oo, e, c1⟩ := HR.out.int hy
        subst e
        have hil : (i : Int) < (l.length : Int) := by omega
        have HY := hide hy
        clear hy
        by_cases e : y = v
        · subst e
          have eb : (y == y) = true := by simp
          have HD := hide (decide_eq_true (List.mem_of_getElem? HY.out))
          go_wp2
          go_ret2
          exact ⟨(i : Int), by rw [HD.out]; rfl, Fr.refl _ _⟩
        · have eb : (y == v) = false := by simp [e]
          have hno : v ∉ l := fun hm => by
            obtain ⟨t, ht⟩ := List.getElem?_of_mem hm
            rcases Nat.lt_trichotomy t i with h1 | h1 | h1
            · have := HLO.out t v ht h1
              omega
            · subst h1
              rw [HY.out] at ht
              injection ht with ht
              exact e ht
            · have hp := HA.out
              unfold Asc at hp
              rw [List.pairwise_iff_getElem] at hp
              obtain ⟨q1, e1⟩ := List.getElem?_eq_some_iff.1 HY.out
              obtain ⟨q2, e2⟩ := List.getElem?_eq_some_iff.1 ht
              have h3 := hp i t q1 q2 h1
              rw [e1, e2] at h3
              have h4 := HHI.out i y HY.out (Nat.le_refl _)
              omega
          have HD := hide (decide_eq_false hno)
          clear hno
          go_wp2
          go_ret2
          exact ⟨(i : Int), by rw [HD.out]; rfl, Fr.refl _ _⟩
      · have hil : ¬ (i : Int) < (l.length : Int) := by omega
        have hil2 : decide ((i : Int) < (l.length : Int)) = false := decide_eq_false hil
        have hno : v ∉ l := fun hm => by
          obtain ⟨t, ht⟩ := List.getElem?_of_mem hm
          have h0 := (List.getElem?_eq_some_iff.1 ht).1
          have := HLO.out t v ht (by omega)
          omega
        have HD := hide (decide_eq_false hno)
        clear hno
        go_wp2
        go_ret2
        exact ⟨(i : Int), by rw [HD.out]; rfl, Fr.refl _ _⟩
end Go.Proofs.Ytdocdgghphhdpaa

