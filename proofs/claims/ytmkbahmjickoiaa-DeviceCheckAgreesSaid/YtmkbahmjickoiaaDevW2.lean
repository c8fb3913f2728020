/- Walks: needed, needs, has. -/
import Derived.Test.YtmkbahmjickoiaaDevW1
namespace Go.Proofs.Ytmkbahmjickoiaa
open Go.RowKit

/-- The rails that a device needs in a state. -/
def PD.need (d : PD) (k : Nat) : Value := if k = 4 then .slice none 0 0 else d.rf k
set_option maxHeartbeats 1000000 in
set_option maxRecDepth 100000 in
theorem needed27_any (d : PD) (k : Nat) (hk : k ≤ 4) (w : World) :
    Calls Try.prog 25 #[.agg d.cells, .int .i64 (k : Int)] w fun e w' => e = .returned (d.need k) ∧ Fr [] w w' := by
  have hbk := Blk.new w 33 d.cells
  have hfr : Fr [] w (w.alloc (.cells d.cells 33)) := (Fr.refl _ _).alloc _
  by_cases h4 : k = 4
  · subst h4
    clear hbk
    go_enter Try.func25, Try.ntmps25
    go_wp2
    go_ret
    exact ⟨rfl, hfr⟩
  · have c1 : (w.alloc (.cells d.cells 33)).cell? ⟨w.heap.size, 1 + k, none⟩ = some (d.rf k) := (hbk.cell (1 + k)).trans (d.rail (by omega))
    have h1 : (k : Int) < 4 := by omega
    have h2 : ((k : Int) == 4) = false := by simp; omega
    have HN := hide (show d.need k = d.rf k by simp [PD.need, h4])
    clear hbk
    go_enter Try.func25, Try.ntmps25
    go_wp2
    go_ret
    exact ⟨by rw [HN.out]; rfl, hfr⟩
set_option maxHeartbeats 1000000 in
set_option maxRecDepth 100000 in
theorem needs27_any (d : PD) (k : Nat) (hk : k ≤ 4) (w : World) :
    Calls Try.prog 29 #[.agg d.cells, .int .i64 (k : Int)] w fun e w' => e = .returned (d.need k) ∧ Fr [] w w' := by
  have hbk := Blk.new w 33 d.cells
  have hfr : Fr [] w (w.alloc (.cells d.cells 33)) := (Fr.refl _ _).alloc _
  by_cases h4 : k = 4
  · subst h4
    clear hbk
    go_enter Try.func29, Try.ntmps29
    go_wp2
    go_ret
    exact ⟨rfl, hfr⟩
  · have c1 : (w.alloc (.cells d.cells 33)).cell? ⟨w.heap.size, 1 + k, none⟩ = some (d.rf k) := (hbk.cell (1 + k)).trans (d.rail (by omega))
    have h1 : (k : Int) < 4 := by omega
    have h2 : ((k : Int) == 4) = false := by simp; omega
    have HN := hide (show d.need k = d.rf k by simp [PD.need, h4])
    clear hbk
    go_enter Try.func29, Try.ntmps29
    go_wp2
    go_ret
    exact ⟨by rw [HN.out]; rfl, hfr⟩
def HasRel (w : World) (l : List Int) (v : Int) (m : Nat) (i : Value) (wr : World) : Prop := ∃ k : Nat, k ≤ l.length ∧ i = .int .i64 k ∧ v ∉ l.take k ∧ w = wr ∧ m = l.length - k
set_option maxHeartbeats 1000000 in
theorem has27_any (A : Option Addr) (cp : Nat) (l : List Int) (v : Int) (w : World) (hr : Row w A (l.map (Value.int .i64))) (hn : l.length ≤ maxLen) :
    Calls Try.prog 31 #[.slice A l.length cp, .int .i64 v] w fun e w' => e = .returned (.bool (decide (v ∈ l))) ∧ w = w' := by
  unfold maxLen at hn
  have HR := hide hr
  clear hr
  go_enter Try.func31, Try.ntmps31
  go_wp2
  go_loopg [5] l.length (fun m i wr => HasRel w l v m i wr)
  case atStart => exact ⟨0, by omega, rfl, by simp, rfl, rfl⟩
  case round =>
    obtain ⟨k, hk, rfl, hnp, rfl, hmm⟩ := hrel
    have HM := hide hmm
    have HNP := hide hnp
    clear hmm hnp
    by_cases hlt : k < l.length
    · obtain ⟨y, hy⟩ : ∃ y, l[k]? = some y := ⟨_, List.getElem?_eq_getElem hlt⟩
      obtain ⟨ob, oo, rfl, c1⟩ := HR.out.int hy
      have hkl : (k : Int) < (l.length : Int) := by omega
      have HY := hide hy
      have HTS : Hid (l.take (k + 1) = l.take k ++ [y]) := hide (by rw [List.take_add_one, hy]; rfl)
      clear hy
      by_cases e : y = v
      · subst e
        have eb : (y == y) = true := by simp
        go_wp2
        go_ret
        exact ⟨ret_bool (decide_eq_true (List.mem_of_getElem? HY.out)).symm, rfl⟩
      · have eb : (y == v) = false := by simp [e]
        go_wp2
        go_roundg (l.length - (k + 1))
        case measure => rw [HM.out]; omega
        case rel =>
          refine ⟨k + 1, by omega, by go_num, ?_, rfl, rfl⟩
          rw [HTS.out]
          intro h
          rcases List.mem_append.1 h with h | h
          · exact HNP.out h
          · exact e (List.mem_singleton.1 h).symm
    · have hkl : ¬ (k : Int) < (l.length : Int) := by omega
      go_wp2
      go_ret
      refine ⟨ret_bool (decide_eq_false ?_).symm, rfl⟩
      have := HNP.out
      rwa [List.take_of_length_le (by omega)] at this
end Go.Proofs.Ytmkbahmjickoiaa
