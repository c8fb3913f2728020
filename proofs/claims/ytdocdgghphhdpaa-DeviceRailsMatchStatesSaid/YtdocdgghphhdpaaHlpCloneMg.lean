/- slices.Clone at ints, walked. -/
import Derived.Test.YtdocdgghphhdpaaApp
import Derived.Test.YtdocdgghphhdpaaMgDeviceRails6
import Derived.Lib.Hide
namespace Go.Proofs.Ytdocdgghphhdpaa
open Go.RowKit
set_option maxHeartbeats 400000 in
theorem clone_any (A : Option Addr) (cp : Nat) (xs : List Value) (w : World) (hr : Row w A xs) (h1 : ∀ u ∈ xs, u.oneCell' = true) (hn : xs.length ≤ 4096) (hA : A = none → cp = 0) :
    Calls Try.prog 59 #[.slice A xs.length cp] w (OwnRet w 3 1 xs.length xs) := by
  obtain ⟨i0, hi0, hz0, hz1, hz2⟩ := info_parts int_info1
  have hq : ∀ (w : World) (a : Option Addr) (n c n' c' : Nat), (binOp .eql 34 (.slice a n c) (.slice none n' c')).run Try.prog w = .ok (.bool a.isNone) w := fun w a n c n' c' => Lib.run_eql_slice_nil w _ _ a n c n' c' Try.underlying34
  rcases A with _ | ad
  · have hx : xs = [] := by
      rcases xs with _ | ⟨x, xs⟩
      · rfl
      · obtain ⟨_, _, h, _⟩ := hr (by simp)
        cases h
    subst hx
    have hc := hA rfl
    subst hc
    clear hA h1 hr hn
    go_enter Try.func59, Try.ntmps59
    go_wp2
    go_ret
    exact ⟨_, rfl, own_nil _ _ _ _, Fr.refl _ _⟩
  · have H1 := hide h1
    have HR := hide hr
    clear hA h1 hr
    go_enter Try.func59, Try.ntmps59
    go_wp2_with (first
      | (at_builtin
         refine wpList_append_row _ rfl (.tmp 5) (.tmp 6) _ rfl w.heap.size 3 i0 (.int .i64 0) 1 8 Try.underlying34 hi0 hz0 hz1 hz2 rfl (by omega) (.slice (some ⟨w.heap.size, 0, none⟩) 0 0) 0 [] rfl
           (own_new w (cs := #[]) (Nat.le_refl _) (by simp) (Nat.le_refl _) (by simp [maxLen])) (some ad) xs.length cp xs rfl (by simp) (HR.out.fr0 ((Fr.refl _ _).alloc _)) H1.out (by simp only [maxLen]; omega) (by omega) (by simp) ?_
         intro v1 w1 hown1 hg1 hat1))
    go_ret
    exact ⟨v1, rfl, by simpa using hown1, ((Fr.refl _ _).alloc _).grown hg1 (by simp [Value.ownBlock])⟩
theorem clone_n (A : Option Addr) (cp n : Nat) (xs : List Value) (w : World) (hl : xs.length = n) (hr : Row w A xs) (h1 : ∀ u ∈ xs, u.oneCell' = true) (hn : n ≤ 4096) (hA : A = none → cp = 0) :
    Calls Try.prog 59 #[.slice A n cp] w (OwnRet w 3 1 n xs) := by
  subst hl
  exact clone_any A cp xs w hr h1 hn hA
end Go.Proofs.Ytdocdgghphhdpaa

