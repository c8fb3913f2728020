/- Walks: law30's awake. -/
import Derived.Test.YtgbkgiglagfciaaSuspW7
namespace Go.Proofs.Ytgbkgiglagfciaa
open Go.RowKit

def demoA : List (Nat × Nat) := [(1, 0), (1, 1), (2, 1), (2, 0), (3, 1), (3, 0), (4, 1), (4, 0), (5, 0), (5, 1), (6, 0), (6, 1), (7, 0), (7, 1), (8, 1), (8, 0)]
def demoB : List (Nat × Nat) := [(1, 0), (1, 1), (2, 1), (2, 0), (7, 1), (8, 1), (8, 0)]
theorem trace_demoA : traceM [0, 1] [] = demoA := by decide +kernel
theorem trace_demoB : traceM [0, 1] [0, 0, 0, 17] = demoB := by decide +kernel

set_option maxHeartbeats 1000000 in
set_option maxRecDepth 10000 in
theorem awake30_any (w : World) : Calls Try.prog 12 #[] w fun e w' => e = .returned (.bool true) ∧ Fr [] w w' := by
  go_enter Try.func12, Try.ntmps12
  go_wp2_with fail
  refine (trace_any (some ⟨w.heap.size, 0, none⟩) none 2 0 [0, 1] [] _ (row_lit w _ _ rfl) (fun e => by cases e) (by simp) (Row.nil _ _) (by simp)).mono ?_
  rintro e w1 ⟨v1, rfl, hown1, hfr1⟩
  rw [trace_demoA] at hown1
  obtain ⟨A1, c1, rfl, -, hrow1, -⟩ := own_slice hown1
  have HR1 := hide hrow1
  have hfw1 : Fr [] w w1 := ((Fr.refl [] _).alloc _).call hfr1
  clear hrow1 hown1 hfr1
  go_wp2_with fail
  refine (trace_any (some ⟨w1.heap.size, 0, none⟩) (some ⟨w1.heap.size + 1, 0, none⟩) 2 4 [0, 1] [0, 0, 0, 17] _ ((row_lit w1 _ _ rfl).fr0 ((Fr.refl [] _).alloc _)) (fun e => by cases e) (by simp) (row_lit _ _ _ (by simp)) (by simp)).mono ?_
  rintro e w2 ⟨v2, rfl, hown2, hfr2⟩
  rw [trace_demoB] at hown2
  obtain ⟨A2, c2, rfl, -, hrow2, -⟩ := own_slice hown2
  have HR2 := hide hrow2
  have hf12 : Fr [] w1 w2 := (((Fr.refl [] _).alloc _).alloc _).call hfr2
  clear hrow2 hown2 hfr2
  go_wp2_with fail
  refine (equalOps_any A1 (some ⟨w2.heap.size, 0, none⟩) c1 16 demoA demoA _ (HR1.out.fr0 ((hf12.alloc _).alloc _)) ((row_lit w2 _ _ rfl).fr0 ((Fr.refl [] _).alloc _)) (by simp [demoA]) (by simp [demoA])).mono ?_
  rintro e w3 ⟨rfl, hfr3⟩
  have hf23 : Fr [] w2 w3 := (((Fr.refl [] _).alloc _).alloc _).call hfr3
  have hr3 := (row_lit (w2.alloc (.cells (opCells demoA).toArray 30)) (opCells demoB).toArray 30 (g := w2.heap.size + 1) (by simp)).fr0 hfr3
  have HR3 := hide hr3
  clear hr3 hfr3
  go_wp2_with fail
  refine (equalOps_any A2 (some ⟨w2.heap.size + 1, 0, none⟩) c2 7 demoB demoB _ (HR2.out.fr0 hf23) HR3.out (by simp [demoB]) (by simp [demoB])).mono ?_
  rintro e w4 ⟨rfl, hfr4⟩
  go_wp2
  go_ret
  exact ⟨rfl, ((hfw1.call hf12).call hf23).call hfr4⟩
end Go.Proofs.Ytgbkgiglagfciaa
