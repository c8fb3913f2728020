/- make of a slice whose elements take one cell each. -/
import Derived.Test.YtgbkgiglagfciaaBase
import Derived.Test.YtgbkgiglagfciaaProg
import Derived.Laws.MakeOwn
import Derived.OwnWalk
namespace Go.Proofs.Ytgbkgiglagfciaa
open Go.RowKit

theorem made_repl {z : Value} (hz : z.cells = #[z]) (n : Nat) : madeCells z.cells (n * 1) = Array.replicate n z := by
  rw [hz, Nat.mul_one]
  apply Array.ext
  · simp [size_madeCells]
  · intro i h1 h2
    simp [madeCells, Nat.mod_one]
theorem run_make_one {P : Program} (t e : TypeId) (z : Value) (b : Nat) (ht : P.underlying t = some (.slice e)) (hi : (P.info? e).map (fun i => (i.zero, i.size, i.bytes)) = some (some z, 1, b)) (hzc : z.cells = #[z])
    (n c : Nat) (hnc : n ≤ c) (hb : b ≤ 64) (hc : c ≤ 1000000) (w : World) :
    (Instr.makeSlice t (.int .i64 (n : Int)) (.int .i64 (c : Int))).run P w = .ok (.slice (some ⟨w.heap.size, 0, none⟩) n c) (w.alloc (.cells (Array.replicate c z) e)) := by
  obtain ⟨i, hi, hz, hs, hby⟩ := info_parts hi
  have hbb : i.bytes * c ≤ 64 * 1000000 := by rw [hby]; exact Nat.mul_le_mul hb hc
  have hb' : (i.bytes : Int) * (c : Int) ≤ 281474976710656 := by
    have h : ((i.bytes * c : Nat) : Int) ≤ 281474976710656 := by omega
    rwa [Int.natCast_mul] at h
  have hr := run_make (P := P) w t e i z ht hi hz .i64 .i64 n c (by omega) (by omega) hb' (by omega)
  rw [hr, hs]
  simp only [Int.toNat_natCast]
  rw [← made_repl hzc]
theorem int_info1 : (Try.prog.info? 3).map (fun i => (i.zero, i.size, i.bytes)) = some (some (.int .i64 0), 1, 8) := by kernel_rfl
theorem bool_info1 : (Try.prog.info? 4).map (fun i => (i.zero, i.size, i.bytes)) = some (some (.bool false), 1, 1) := by kernel_rfl
theorem make_ints (n c : Nat) (hnc : n ≤ c) (hc : c ≤ 1000000) (w : World) : (Instr.makeSlice 22 (.int .i64 (n : Int)) (.int .i64 (c : Int))).run Try.prog w = .ok (.slice (some ⟨w.heap.size, 0, none⟩) n c) (w.alloc (.cells (Array.replicate c (.int .i64 0)) 3)) :=
  run_make_one _ _ _ 8 Try.underlying22 int_info1 rfl n c hnc (by omega) hc w
theorem make_ints0 (c : Nat) (hc : c ≤ 1000000) (w : World) : (Instr.makeSlice 22 (.int .i64 0) (.int .i64 (c : Int))).run Try.prog w = .ok (.slice (some ⟨w.heap.size, 0, none⟩) 0 c) (w.alloc (.cells (Array.replicate c (.int .i64 0)) 3)) := make_ints 0 c (Nat.zero_le _) hc w
theorem make_bools (n c : Nat) (hnc : n ≤ c) (hc : c ≤ 1000000) (w : World) : (Instr.makeSlice 94 (.int .i64 (n : Int)) (.int .i64 (c : Int))).run Try.prog w = .ok (.slice (some ⟨w.heap.size, 0, none⟩) n c) (w.alloc (.cells (Array.replicate c (.bool false)) 4)) :=
  run_make_one _ _ _ 1 Try.underlying94 bool_info1 rfl n c hnc (by omega) hc w
end Go.Proofs.Ytgbkgiglagfciaa
