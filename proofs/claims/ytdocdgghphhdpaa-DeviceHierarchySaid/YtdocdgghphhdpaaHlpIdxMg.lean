/- slices.Index at ints, walked. -/
import Derived.Test.YtdocdgghphhdpaaMgDeviceHierarchy0
import Derived.Test.YtdocdgghphhdpaaProg
import Derived.Lib.Hide
import Derived.Deep.LoopGhost
namespace Go.Proofs.Ytdocdgghphhdpaa
open Go.RowKit

/-- The index of the first x, or -1. -/
def idxI {α : Type} [BEq α] (l : List α) (x : α) : Int := match l.idxOf? x with | some i => (i : Int) | none => -1
theorem idxI_none {α : Type} [BEq α] [LawfulBEq α] {l : List α} {x : α} (h : x ∉ l) : idxI l x = -1 := by
  have : l.idxOf? x = none := by rw [List.idxOf?_eq_none_iff]; exact h
  simp [idxI, this]
theorem idxI_some {α : Type} [BEq α] [LawfulBEq α] {l : List α} {x : α} {k : Nat} (h : l[k]? = some x) (hn : x ∉ l.take k) : idxI l x = (k : Int) := by
  have hk : k < l.length := (List.getElem?_eq_some_iff.1 h).1
  have : l.idxOf? x = some k := by
    unfold List.idxOf?
    rw [List.findIdx?_eq_some_iff_getElem]
    refine ⟨hk, by simpa [List.getElem?_eq_getElem hk] using h, fun j hj e => hn ?_⟩
    have e' : l[j]'(by omega) = x := by simpa using e
    rw [List.mem_iff_getElem?]
    exact ⟨j, by rw [List.getElem?_take, if_pos hj, List.getElem?_eq_getElem (by omega), e']⟩
  simp [idxI, this]

def IdxRel {α : Type} (w : World) (l : List α) (x : α) (m : Nat) (i : Value) (wr : World) : Prop := ∃ k : Nat, k ≤ l.length ∧ i = .int .i64 k ∧ x ∉ l.take k ∧ w = wr ∧ m = l.length - k

set_option maxHeartbeats 1000000 in
theorem indexInts_any (A : Option Addr) (cp : Nat) (l : List Int) (x : Int) (w : World) (hr : Row w A (l.map (Value.int .i64))) (hn : l.length ≤ 4096) :
    Calls Try.prog 118 #[.slice A l.length cp, .int .i64 x] w fun e w' => e = .returned (.int .i64 (idxI l x)) ∧ w = w' := by
  have HR := hide hr
  clear hr
  go_enter Try.func118, Try.ntmps118
  go_wp2
  go_loopg [8] l.length (fun m i wr => IdxRel w l x m i wr)
  case atStart => exact ⟨0, by omega, rfl, by simp, rfl, rfl⟩
  case round =>
    obtain ⟨k, hk, rfl, hnp, rfl, hmm⟩ := hrel
    have HM := hide hmm
    have HNP := hide hnp
    clear hmm hnp
    by_cases hlt : k < l.length
    · obtain ⟨y, hy⟩ : ∃ y, l[k]? = some y := ⟨_, List.getElem?_eq_getElem hlt⟩
      obtain ⟨ob, oo, rfl, c1⟩ := HR.out.int hy
      have hkl : (k : Int) < (l.length : Int) := by omega
      have HY := hide hy
      clear hy
      by_cases e : x = y
      · subst e
        have eb : (x == x) = true := by simp
        go_wp2
        go_ret
        exact ⟨ret_int (idxI_some HY.out HNP.out).symm, rfl⟩
      · have eb : (x == y) = false := by simp [e]
        go_wp2
        go_roundg (l.length - (k + 1))
        case measure => rw [HM.out]; omega
        case rel =>
          refine ⟨k + 1, by omega, by go_num, ?_, rfl, rfl⟩
          rw [List.take_add_one, HY.out]
          simp only [Option.toList_some, List.mem_append, List.mem_singleton, not_or]
          exact ⟨HNP.out, e⟩
    · have hkl : ¬ (k : Int) < (l.length : Int) := by omega
      go_wp2
      go_ret
      refine ⟨ret_int (idxI_none ?_).symm, rfl⟩
      have := HNP.out
      rwa [List.take_of_length_le (by omega)] at this
end Go.Proofs.Ytdocdgghphhdpaa

