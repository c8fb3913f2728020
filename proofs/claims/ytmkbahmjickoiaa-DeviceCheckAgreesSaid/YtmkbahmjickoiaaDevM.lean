/- Power devices as values: the parent, four lists of rails, six deepest states, two numbers. -/
import Derived.Test.YtmkbahmjickoiaaArr
import Derived.Test.YtmkbahmjickoiaaFlat
import Derived.Test.YtmkbahmjickoiaaProg
import Derived.Deep.QuietTactic
import Derived.BigQuiet
import Derived.Lib.Hide
import Derived.Deep.LoopGhost
namespace Go.Proofs.Ytmkbahmjickoiaa
open Go.RowKit

structure PD where
  par : Int
  rf : Nat → Value
  df : Nat → Int
  wd : Int
  ws : Int
def PD.cells (d : PD) : Array Value := #[.int .i64 d.par, d.rf 0, d.rf 1, d.rf 2, d.rf 3, .int .i64 (d.df 0), .int .i64 (d.df 1), .int .i64 (d.df 2), .int .i64 (d.df 3), .int .i64 (d.df 4), .int .i64 (d.df 5), .int .i64 d.wd, .int .i64 d.ws]
theorem PD.rail (d : PD) {k : Nat} (h : k < 4) : d.cells[1 + k]? = some (d.rf k) := by
  have : k = 0 ∨ k = 1 ∨ k = 2 ∨ k = 3 := by omega
  rcases this with rfl | rfl | rfl | rfl <;> rfl
theorem PD.deep (d : PD) {k : Nat} (h : k < 6) : d.cells[5 + k]? = some (.int .i64 (d.df k)) := by
  have : k = 0 ∨ k = 1 ∨ k = 2 ∨ k = 3 ∨ k = 4 ∨ k = 5 := by omega
  rcases this with rfl | rfl | rfl | rfl | rfl | rfl <;> rfl
def targetM (d : PD) (s : Int) (wake : Bool) : Int × Int :=
  if s < 0 ∨ 5 < s then (0, 1) else if wake = false then (d.df s.toNat, 0) else if d.ws < s then (0, 13) else (min (d.df s.toNat) d.wd, 0)
set_option maxHeartbeats 2000000 in
set_option maxRecDepth 100000 in
theorem target27_any (d : PD) (s : Int) (wake : Bool) (w : World) :
    Calls Try.prog 14 #[.agg d.cells, .int .i64 s, .bool wake] w fun e w' => e = .returned (.tuple #[.int .i64 (targetM d s wake).1, .int .i64 (targetM d s wake).2]) ∧ Fr [] w w' := by
  have hbk := Blk.new w 33 d.cells
  have hfr : Fr [] w (w.alloc (.cells d.cells 33)) := (Fr.refl _ _).alloc _
  by_cases hs : s < 0 ∨ 5 < s
  · have hm : targetM d s wake = (0, 1) := by simp [targetM, hs]
    have HM := hide hm
    clear hm hbk
    rcases hs with hs | hs
    · go_enter Try.func14, Try.ntmps14
      go_wp2
      go_ret2
      exact ⟨by rw [HM.out]; rfl, hfr⟩
    · have hs0 : ¬ s < 0 := by omega
      go_enter Try.func14, Try.ntmps14
      go_wp2
      go_ret2
      exact ⟨by rw [HM.out]; rfl, hfr⟩
  · obtain ⟨k, hk⟩ := Int.eq_ofNat_of_zero_le (show 0 ≤ s by omega)
    subst hk
    have hk6 : k < 6 := by omega
    have c1 : (w.alloc (.cells d.cells 33)).cell? ⟨w.heap.size, 5 + k, none⟩ = some (.int .i64 (d.df k)) := (hbk.cell (5 + k)).trans (d.deep hk6)
    have c2 : (w.alloc (.cells d.cells 33)).cell? ⟨w.heap.size, 11, none⟩ = some (.int .i64 d.wd) := hbk.cell 11
    have c3 : (w.alloc (.cells d.cells 33)).cell? ⟨w.heap.size, 12, none⟩ = some (.int .i64 d.ws) := hbk.cell 12
    have h1 : (k : Int) < 6 := by omega
    have h2 : (k : Int) ≤ 5 := by omega
    have HMD := hide (show targetM d (k : Int) wake = if wake = false then (d.df k, 0) else if d.ws < (k : Int) then (0, 13) else (min (d.df k) d.wd, 0) by
      unfold targetM
      rw [if_neg hs, Int.toNat_natCast])
    clear hs hbk
    cases wake with
    | false =>
      rw [if_pos rfl] at HMD
      go_enter Try.func14, Try.ntmps14
      go_wp2
      go_ret2
      exact ⟨by rw [HMD.out]; rfl, hfr⟩
    | true =>
      rw [if_neg (by decide)] at HMD
      generalize d.df k = x at c1 HMD
      generalize d.wd = wd at c2 HMD
      by_cases hw : d.ws < (k : Int)
      · rw [if_pos hw] at HMD
        go_enter Try.func14, Try.ntmps14
        go_wp2
        go_ret2
        exact ⟨by rw [HMD.out]; rfl, hfr⟩
      · rw [if_neg hw] at HMD
        by_cases hle : x ≤ wd
        · rw [Int.min_eq_left hle] at HMD
          go_enter Try.func14, Try.ntmps14
          go_wp2
          go_quiet (fail)
          go_wp2
          all_goals
            go_ret2
            exact ⟨by first | (rw [HMD.out]; rfl) | (rw [HMD.out]; simp; omega), hfr.drewN _⟩
        · rw [Int.min_eq_right (by omega)] at HMD
          go_enter Try.func14, Try.ntmps14
          go_wp2
          go_quiet (fail)
          go_wp2
          all_goals
            go_ret2
            exact ⟨by first | (rw [HMD.out]; rfl) | (rw [HMD.out]; simp; omega), hfr.drewN _⟩
end Go.Proofs.Ytmkbahmjickoiaa
