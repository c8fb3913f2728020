/- slices.Index at bools, slices.Contains at ints, walked. -/
import Derived.Test.YtnfhiadhpbojkaaMgDepgraphMinimal3
import Derived.Test.YtnfhiadhpbojkaaApp
import Derived.Test.YtnfhiadhpbojkaaMgDepgraphMinimal2
import Derived.Lib.Hide
namespace Go.Proofs.Ytnfhiadhpbojkaa
open Go.RowKit
set_option maxHeartbeats 1000000 in
theorem indexBools_any (A : Option Addr) (cp : Nat) (l : List Bool) (x : Bool) (w : World) (hr : Row w A (l.map Value.bool)) (hn : l.length ≤ 4096) :
    Calls Try.prog 39 #[.slice A l.length cp, .bool x] w fun e w' => e = .returned (.int .i64 (idxI l x)) ∧ w = w' := by
  have HR := hide hr
  clear hr
  go_enter Try.func39, Try.ntmps39
  go_wp2
  go_loopg [8] l.length (fun m i wr => IdxRel w l x m i wr)
  case atStart => exact ⟨0, by omega, rfl, by simp, rfl, rfl⟩
  case round =>
    obtain ⟨k, hk, rfl, hnp, rfl, hmm⟩ := hrel
    have HM := hide hmm
    have HNP := hide hnp
    clear hmm hnp
    by_cases hlt : k < l.length
    · obtain ⟨y, hy⟩ : ∃ y, l[k]? = some y := ⟨_, List.getElem?_eq_getElem hlt⟩
      obtain ⟨ob, oo, rfl, c1⟩ := HR.out.at_ (i := k) (u := .bool y) (by rw [List.getElem?_map, hy]; rfl)
      have hkl : (k : Int) < (l.length : Int) := by omega
      have HY := hide hy
      clear hy
      by_cases e : x = y
      · subst e
        have eb : (x == x) = true := by simp
        go_wp2
        go_ret
        exact ⟨ret_int (idxI_some HY.out HNP.out).symm, rfl⟩
      · have eb : (x == y) = false := by simp [e]
        go_wp2
        go_roundg (l.length - (k + 1))
        case measure => rw [HM.out]; omega
        case rel =>
          refine ⟨k + 1, by omega, by go_num, ?_, rfl, rfl⟩
          rw [List.take_add_one, HY.out]
          simp only [Option.toList_some, List.mem_append, List.mem_singleton, not_or]
          exact ⟨HNP.out, e⟩
    · have hkl : ¬ (k : Int) < (l.length : Int) := by omega
      go_wp2
      go_ret
      refine ⟨ret_int (idxI_none ?_).symm, rfl⟩
      have := HNP.out
      rwa [List.take_of_length_le (by omega)] at this

theorem idxI_ge {α : Type} [BEq α] [LawfulBEq α] [DecidableEq α] (l : List α) (x : α) : decide (0 ≤ idxI l x) = decide (x ∈ l) := by
  by_cases h : x ∈ l
  · have : ∃ k, l.idxOf? x = some k := by
      cases e : l.idxOf? x with
      | none => exact absurd h (List.idxOf?_eq_none_iff.1 e)
      | some k => exact ⟨k, rfl⟩
    obtain ⟨k, hk⟩ := this
    simp [idxI, hk, h]
  · rw [idxI_none h]
    simp [h]
set_option maxHeartbeats 1000000 in
theorem containsInts_any (A : Option Addr) (cp : Nat) (l : List Int) (x : Int) (w : World) (hr : Row w A (l.map (Value.int .i64))) (hn : l.length ≤ 4096) :
    Calls Try.prog 40 #[.slice A l.length cp, .int .i64 x] w fun e w' => e = .returned (.bool (decide (x ∈ l))) ∧ w = w' := by
  have HR := hide hr
  clear hr
  have HG := hide (idxI_ge l x)
  go_enter Try.func40, Try.ntmps40
  go_wp2_with fail
  refine (indexInts_any A cp l x w HR.out hn).mono ?_
  rintro e w1 ⟨rfl, rfl⟩
  generalize idxI l x = y at HG ⊢
  go_wp2
  go_ret
  exact ⟨ret_bool HG.out, rfl⟩
end Go.Proofs.Ytnfhiadhpbojkaa

/- slices.Clone at ints, walked. -/
namespace Go.Proofs.Ytnfhiadhpbojkaa
open Go.RowKit
set_option maxHeartbeats 400000 in
theorem clone_any (A : Option Addr) (cp : Nat) (xs : List Value) (w : World) (hr : Row w A xs) (h1 : ∀ u ∈ xs, u.oneCell' = true) (hn : xs.length ≤ 4096) (hA : A = none → cp = 0) :
    Calls Try.prog 41 #[.slice A xs.length cp] w (OwnRet w 3 1 xs.length xs) := by
  obtain ⟨i0, hi0, hz0, hz1, hz2⟩ := info_parts int_info1
  have hq : ∀ (w : World) (a : Option Addr) (n c n' c' : Nat), (binOp .eql 26 (.slice a n c) (.slice none n' c')).run Try.prog w = .ok (.bool a.isNone) w := fun w a n c n' c' => Lib.run_eql_slice_nil w _ _ a n c n' c' Try.underlying26
  rcases A with _ | ad
  · have hx : xs = [] := by
      rcases xs with _ | ⟨x, xs⟩
      · rfl
      · obtain ⟨_, _, h, _⟩ := hr (by simp)
        cases h
    subst hx
    have hc := hA rfl
    subst hc
    clear hA h1 hr hn
    go_enter Try.func41, Try.ntmps41
    go_wp2
    go_ret
    exact ⟨_, rfl, own_nil _ _ _ _, Fr.refl _ _⟩
  · have H1 := hide h1
    have HR := hide hr
    clear hA h1 hr
    go_enter Try.func41, Try.ntmps41
    go_wp2_with (first
      | (at_builtin
         refine wpList_append_row _ rfl (.tmp 5) (.tmp 6) _ rfl w.heap.size 3 i0 (.int .i64 0) 1 8 Try.underlying26 hi0 hz0 hz1 hz2 rfl (by omega) (.slice (some ⟨w.heap.size, 0, none⟩) 0 0) 0 [] rfl
           (own_new w (cs := #[]) (Nat.le_refl _) (by simp) (Nat.le_refl _) (by simp [maxLen])) (some ad) xs.length cp xs rfl (by simp) (HR.out.fr0 ((Fr.refl _ _).alloc _)) H1.out (by simp only [maxLen]; omega) (by omega) (by simp) ?_
         intro v1 w1 hown1 hg1 hat1))
    go_ret
    exact ⟨v1, rfl, by simpa using hown1, ((Fr.refl _ _).alloc _).grown hg1 (by simp [Value.ownBlock])⟩
theorem clone_n (A : Option Addr) (cp n : Nat) (xs : List Value) (w : World) (hl : xs.length = n) (hr : Row w A xs) (h1 : ∀ u ∈ xs, u.oneCell' = true) (hn : n ≤ 4096) (hA : A = none → cp = 0) :
    Calls Try.prog 41 #[.slice A n cp] w (OwnRet w 3 1 n xs) := by
  subst hl
  exact clone_any A cp xs w hr h1 hn hA
end Go.Proofs.Ytnfhiadhpbojkaa

