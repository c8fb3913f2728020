/- From the shell's word for a slice of integers that came in to 'Row'. -/
import Derived.Test.YtgbkgiglagfciaaBase
namespace Go.Proofs.Ytgbkgiglagfciaa
open Go.RowKit
theorem spot_of_cell {w : World} {x : Addr} {v : Value} (h : w.cell? x = some v) : x = ⟨x.block, x.off, none⟩ := by
  obtain ⟨b, o, s⟩ := x
  cases s with
  | none => rfl
  | some s =>
    unfold World.cell? at h
    split at h
    · simp at h
    · cases h
theorem add_at (b o i : Nat) : (⟨b, o, none⟩ : Addr).add i = ⟨b, o + i, none⟩ := by
  unfold Addr.add
  split
  · rename_i h; subst h; rfl
  · rfl
theorem isRow_row {k : IntKind} {w : World} {a : Option Addr} {len cap : Nat} {zs : List Int} (h : (a = none ∧ len = 0 ∧ cap = 0 ∧ zs = []) ∨
    ∃ x, a = some x ∧ len ≤ cap ∧ cap ≤ maxLen ∧ zs.length = cap ∧ (∀ i, i < zs.length → w.cell? (x.add i) = some (.int k (zs.getD i 0))) ∧ ∀ n ∈ zs, (Lit.int k n).wf = true) :
    ∃ l : List Int, l.length = len ∧ Row w a (l.map (Value.int k)) ∧ l.length ≤ maxLen ∧ (a = none → cap = 0) ∧ ∀ n ∈ l, (Lit.int k n).wf = true := by
  rcases h with ⟨rfl, rfl, rfl, rfl⟩ | ⟨x, rfl, hl, hm, hz, hc, hw⟩
  · exact ⟨[], rfl, Row.nil _ _, by simp, fun _ => rfl, (fun n hn => by cases hn)⟩
  · have hlen : (zs.take len).length = len := by rw [List.length_take, hz]; omega
    refine ⟨zs.take len, hlen, ?_, by omega, (fun e => by cases e), fun n hn => hw n (List.mem_of_mem_take hn)⟩
    intro h0
    rw [List.length_map, hlen] at h0
    have hx := hc 0 (by omega)
    have hx0 : x.add 0 = x := by simp [Addr.add]
    rw [hx0] at hx
    have hsp := spot_of_cell hx
    refine ⟨x.block, x.off, by rw [← hsp], fun i u hi => ?_⟩
    rw [List.getElem?_map] at hi
    obtain ⟨n, hn, rfl⟩ := Option.map_eq_some_iff.1 hi
    rw [List.getElem?_take] at hn
    split at hn
    · have hi' : i < zs.length := (List.getElem?_eq_some_iff.1 hn).1
      have := hc i hi'
      rw [hsp, add_at] at this
      rw [this, List.getD_eq_getElem?_getD, hn]
      rfl
    · cases hn
end Go.Proofs.Ytgbkgiglagfciaa
