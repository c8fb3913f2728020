/- slices.Index at bools, slices.Contains at ints, walked. -/
import Derived.Test.YtnfhiadhpbojkaaHlpIdx
namespace Go.Proofs.Ytnfhiadhpbojkaa
open Go.RowKit
set_option maxHeartbeats 1000000 in
theorem indexBools_any (A : Option Addr) (cp : Nat) (l : List Bool) (x : Bool) (w : World) (hr : Row w A (l.map Value.bool)) (hn : l.length ≤ 4096) :
    Calls Try.prog 39 #[.slice A l.length cp, .bool x] w fun e w' => e = .returned (.int .i64 (idxI l x)) ∧ w = w' := by
  have HR := hide hr
  clear hr
  go_enter Try.func39, Try.ntmps39
  go_wp2
  go_loopg [8] l.length (fun m i wr => IdxRel w l x m i wr)
  case atStart => exact ⟨0, by omega, rfl, by simp, rfl, rfl⟩
  case round =>
    obtain ⟨k, hk, rfl, hnp, rfl, hmm⟩ := hrel
    have HM := hide hmm
    have HNP := hide hnp
    clear hmm hnp
    by_cases hlt : k < l.length
    · obtain ⟨y, hy⟩ : ∃ y, l[k]? = some y := ⟨_, List.getElem?_eq_getElem hlt⟩
      obtain ⟨ob, oo, rfl, c1⟩ := HR.out.at_ (i := k) (u := .bool y) (by rw [List.getElem?_map, hy]; rfl)
      have hkl : (k : Int) < (l.length : Int) := by omega
      have HY := hide hy
      clear hy
      by_cases e : x = y
      · subst e
        have eb : (x == x) = true := by simp
        go_wp2
        go_ret
        exact ⟨ret_int (idxI_some HY.out HNP.out).symm, rfl⟩
      · have eb : (x == y) = false := by simp [e]
        go_wp2
        go_roundg (l.length - (k + 1))
        case measure => rw [HM.out]; omega
        case rel =>
          refine ⟨k + 1, by omega, by go_num, ?_, rfl, rfl⟩
          rw [List.take_add_one, HY.out]
          simp only [Option.toList_some, List.mem_append, List.mem_singleton, not_or]
          exact ⟨HNP.out, e⟩
    · have hkl : ¬ (k : Int) < (l.length : Int) := by omega
      go_wp2
      go_ret
      refine ⟨ret_int (idxI_none ?_).symm, rfl⟩
      have := HNP.out
      rwa [List.take_of_length_le (by omega)] at this

theorem idxI_ge {α : Type} [BEq α] [LawfulBEq α] [DecidableEq α] (l : List α) (x : α) : decide (0 ≤ idxI l x) = decide (x ∈ l) := by
  by_cases h : x ∈ l
  · have : ∃ k, l.idxOf? x = some k := by
      cases e : l.idxOf? x with
      | none => exact absurd h (List.idxOf?_eq_none_iff.1 e)
      | some k => exact ⟨k, rfl⟩
    obtain ⟨k, hk⟩ := this
    simp [idxI, hk, h]
  · rw [idxI_none h]
    simp [h]
set_option maxHeartbeats 1000000 in
theorem containsInts_any (A : Option Addr) (cp : Nat) (l : List Int) (x : Int) (w : World) (hr : Row w A (l.map (Value.int .i64))) (hn : l.length ≤ 4096) :
    Calls Try.prog 40 #[.slice A l.length cp, .int .i64 x] w fun e w' => e = .returned (.bool (decide (x ∈ l))) ∧ w = w' := by
  have HR := hide hr
  clear hr
  have HG := hide (idxI_ge l x)
  go_enter Try.func40, Try.ntmps40
  go_wp2_with fail
  refine (indexInts_any A cp l x w HR.out hn).mono ?_
  rintro e w1 ⟨rfl, rfl⟩
  generalize idxI l x = y at HG ⊢
  go_wp2
  go_ret
  exact ⟨ret_bool HG.out, rfl⟩
end Go.Proofs.Ytnfhiadhpbojkaa
