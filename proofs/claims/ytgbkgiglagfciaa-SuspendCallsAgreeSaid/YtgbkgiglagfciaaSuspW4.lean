/- Walks: slices.Clone at ints, suspend.New, suspend.Trace. -/
import Derived.Test.YtgbkgiglagfciaaSuspW3
import Derived.Test.YtgbkgiglagfciaaApp
namespace Go.Proofs.Ytgbkgiglagfciaa
open Go.RowKit

theorem int_info : (Try.prog.info? 3).map (fun i => (i.zero, i.size, i.bytes)) = some (some (.int .i64 0), 1, 8) := by kernel_rfl

def OwnRet (w : World) (e : TypeId) (size n : Nat) (xs : List Value) (r : Ending) (w' : World) : Prop := ∃ v, r = .returned v ∧ w'.ownsRow w.heap.size e size v n xs ∧ Fr [] w w'
set_option maxHeartbeats 400000 in
theorem clone_any (A : Option Addr) (cp : Nat) (xs : List Value) (w : World) (hr : Row w A xs) (h1 : ∀ u ∈ xs, u.oneCell' = true) (hn : xs.length ≤ 4096) (hA : A = none → cp = 0) :
    Calls Try.prog 41 #[.slice A xs.length cp] w (OwnRet w 3 1 xs.length xs) := by
  obtain ⟨i0, hi0, hz0, hz1, hz2⟩ := info_parts int_info
  have hq : ∀ (w : World) (a : Option Addr) (n c n' c' : Nat), (binOp .eql 22 (.slice a n c) (.slice none n' c')).run Try.prog w = .ok (.bool a.isNone) w := fun w a n c n' c' => Lib.run_eql_slice_nil w _ _ a n c n' c' Try.underlying22
  rcases A with _ | ad
  · have hx : xs = [] := by
      rcases xs with _ | ⟨x, xs⟩
      · rfl
      · obtain ⟨_, _, h, _⟩ := hr (by simp)
        cases h
    subst hx
    have hc := hA rfl
    subst hc
    clear hA h1 hr hn
    go_enter Try.func41, Try.ntmps41
    go_wp2
    go_ret
    exact ⟨_, rfl, own_nil _ _ _ _, Fr.refl _ _⟩
  · have H1 := hide h1
    have HR := hide hr
    clear hA h1 hr
    go_enter Try.func41, Try.ntmps41
    go_wp2_with (first
      | (at_builtin
         refine wpList_append_row _ rfl (.tmp 5) (.tmp 6) _ rfl w.heap.size 3 i0 (.int .i64 0) 1 8 Try.underlying22 hi0 hz0 hz1 hz2 rfl (by omega) (.slice (some ⟨w.heap.size, 0, none⟩) 0 0) 0 [] rfl
           (own_new w (cs := #[]) (Nat.le_refl _) (by simp) (Nat.le_refl _) (by simp [maxLen])) (some ad) xs.length cp xs rfl (by simp) (HR.out.fr0 ((Fr.refl _ _).alloc _)) H1.out (by simp only [maxLen]; omega) (by omega) (by simp) ?_
         intro v1 w1 hown1 hg1 hat1))
    go_ret
    exact ⟨v1, rfl, by simpa using hown1, ((Fr.refl _ _).alloc _).grown hg1 (by simp [Value.ownBlock])⟩
theorem clone_n (A : Option Addr) (cp n : Nat) (xs : List Value) (w : World) (hl : xs.length = n) (hr : Row w A xs) (h1 : ∀ u ∈ xs, u.oneCell' = true) (hn : n ≤ 4096) (hA : A = none → cp = 0) :
    Calls Try.prog 41 #[.slice A n cp] w (OwnRet w 3 1 n xs) := by
  subst hl
  exact clone_any A cp xs w hr h1 hn hA
/-- What an owned row is as a slice. -/
theorem own_slice {w : World} {base : Nat} {e : TypeId} {size : Nat} {v : Value} {n : Nat} {xs : List Value} (h : w.ownsRow base e size v n xs) :
    ∃ A cp, v = .slice A n cp ∧ (A = none → cp = 0) ∧ Row w A xs ∧ ∀ ad, A = some ad → base ≤ ad.block ∧ ad.block < w.heap.size := by
  rcases h.2 with ⟨h0, h1⟩ | ⟨g, cap, cur, hv, hb, hh, _⟩
  · subst h0
    subst h1
    exact ⟨none, 0, rfl, fun _ => rfl, Row.of_own h, (fun ad e => by cases e)⟩
  · subst hv
    exact ⟨_, cap, rfl, (fun e => by cases e), Row.of_own h, (fun ad e => by cases e; exact ⟨hb, lt_of_block hh⟩)⟩
end Go.Proofs.Ytgbkgiglagfciaa
