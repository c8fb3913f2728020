/- Walks: slices.SortFunc over links: the row sorted. -/
import Derived.Test.YtkbfnhkcmelneaaRedW1Mg
namespace Go.Proofs.Ytkbfnhkcmelneaa
open Go.RowKit Go.Shelf Go.Lib Go.Sort

theorem cmpI_lt (a b : Int) : cmpI a b = if a < b then -1 else if b < a then 1 else 0 := by
  unfold cmpI Lib.compareInt
  rfl
/-- The order of links: by consumer, then by supplier. -/
def LexL (x y : Int × Int) : Prop := x.1 < y.1 ∨ (x.1 = y.1 ∧ x.2 < y.2)
theorem ltL (x y : Int × Int) : ltOf cmpL x y = true ↔ LexL x y := by
  unfold ltOf cmpL orM LexL
  rw [cmpI_lt, cmpI_lt, decide_eq_true_eq]
  split <;> rename_i h <;> (repeat' split) <;> omega
theorem ltL_false (x y : Int × Int) : ltOf cmpL x y = false ↔ ¬ LexL x y := by
  rw [← ltL, Bool.not_eq_true]
theorem swoL : SWO (ltOf cmpL) where
  irrefl x := by rw [ltL_false]; unfold LexL; omega
  trans x y z h1 h2 := by rw [ltL] at *; unfold LexL at *; omega
  ntrans x y z h1 h2 := by rw [ltL_false] at *; unfold LexL at *; omega
theorem antiL (x y : Int × Int) (h1 : ltOf cmpL x y = false) (h2 : ltOf cmpL y x = false) : x = y := by
  rw [ltL_false] at h1 h2
  unfold LexL at h1 h2
  exact Prod.ext (by omega) (by omega)
def sortL (l : List (Int × Int)) : List (Int × Int) := l.mergeSort fun x y => !ltOf cmpL y x
theorem sortL_length (l : List (Int × Int)) : (sortL l).length = l.length := List.length_mergeSort _
theorem sortL_nil : sortL [] = [] := by simp [sortL]
theorem flat_pcs (l : List (Int × Int)) (t : Nat) (ht : t < l.length * 2) : (pcs l)[t]? = some (flatK pc 2 l.toArray)[t]! := by
  have hq : t / 2 < l.length := by omega
  have h1 := flat_get (f := pc) pc_len (List.getElem?_eq_getElem hq) (Nat.mod_lt t (show 0 < 2 by omega))
  rw [show t / 2 * 2 + t % 2 = t by omega] at h1
  have h2 := get_flatK pc 2 l.toArray t (by simpa using ht)
  show (l.flatMap pc)[t]? = _
  rw [h1, h2]
  have h3 : l.toArray[t / 2]! = l[t / 2] := by simp [hq]
  rw [h3]
  rcases (show t % 2 = 0 ∨ t % 2 = 1 by omega) with h | h <;> rw [h] <;> rfl
theorem heap_sorted {w : World} {g n : Nat} {t : TypeId} {cur : Array Value} {os : Array Obj} (D : Array (Int × Int)) (h : w.heap[g]? = some (.cells cur t (0, 0))) : (sortWorldK pc 2 w g 0 n D os).heap[g]? = some (.cells (putCells id 0 (flatK pc 2 D) cur) t (0, 0)) := by
  have hl := lt_of_block h
  unfold sortWorldK putRowK putRow mapBlock grow Sort.ahead
  show (w.heap.modify g _ ++ os)[g]? = _
  rw [Array.getElem?_append_left (by simpa using hl), Array.getElem?_modify, if_pos rfl, h]
  rfl
theorem fr_sorted (w : World) (g n : Nat) (D : Array (Int × Int)) (os : Array Obj) : Fr [g] w (sortWorldK pc 2 w g 0 n D os) := by
  unfold sortWorldK putRowK putRow mapBlock grow Sort.ahead
  refine ⟨rfl, rfl, rfl, ?_, fun k hk hn => ?_⟩
  · show w.heap.size ≤ (w.heap.modify g _ ++ os).size
    simp
  · show (w.heap.modify g _ ++ os)[k]? = _
    rw [Array.getElem?_append_left (by simpa using hk), Array.getElem?_modify, if_neg (fun e => hn (by simp [e]))]
set_option maxHeartbeats 1000000 in
theorem sort_any {w : World} {base g c : Nat} (l : List (Int × Int)) (ho : w.ownsRow base 41 2 (.slice (some ⟨g, 0, none⟩) l.length c) l.length (pcs l)) (hn : l.length ≤ 1000000) :
    Calls Try.prog 17 #[.slice (some ⟨g, 0, none⟩) l.length c, .func (.func 18) #[] #[]] w fun e w' => e = .returned (.tuple #[]) ∧ w'.ownsRow base 41 2 (.slice (some ⟨g, 0, none⟩) l.length c) l.length (pcs (sortL l)) ∧ Fr [g] w w' := by
  rcases ho.2 with ⟨h0, _⟩ | ⟨g', cap, cur, hv, hb, hh, hcn, hc, hs, hx⟩
  · cases h0
  · injection hv with e1 e2 e3
    injection e1 with e1
    injection e1 with e1
    subst e1 e3
    have hH : HoldsK pc 2 w g 0 l.toArray := fun j hj => by
      rw [size_flatK] at hj
      have hj' : j < l.length * 2 := by simpa using hj
      have h1 := flat_pcs l j hj'
      rw [← hx, List.getElem?_take] at h1
      rw [if_pos (by omega)] at h1
      refine ⟨?_, Blk.frozen (w := w) (g := g) (t := 41) (cs := cur) hh _⟩
      rw [Blk.cell (w := w) (g := g) (t := 41) (cs := cur) hh, Nat.zero_add]
      simpa using h1
    have eg : ∀ args w, (callFunc 18 args).run Try.prog w = .ok (.enter 18 args) w := enters_of Try.func18 (by kernel_rfl) rfl
    have hcon := AnyQ.slices_SortFunc_total sortLink 2 Try.isAgg41 Try.sizeOf41 pc pc_len (fun x v hv => by simp [pc] at hv; rcases hv with rfl | rfl <;> rfl) cmpL swoL 18 #[] g 0 c l.toArray w eg (fun _ _ _ _ x y => cmpLink_any x y _) hH (lt_of_block hh) (by simp; omega) antiL
    change Calls Try.prog 17 _ _ _ at hcon
    rw [List.size_toArray] at hcon
    refine hcon.mono ?_
    rintro e w' ⟨he, n, os, rfl⟩
    have hsl : (sortL l).length = l.length := sortL_length l
    refine ⟨he, ⟨by rw [pcs_length, hsl], .inr ⟨g, c, putCells id 0 (flatK pc 2 (sortL l).toArray) cur, rfl, hb, heap_sorted _ hh, hcn, hc, by unfold putCells; simpa using hs, ?_⟩⟩, fr_sorted _ _ _ _ _⟩
    apply List.ext_getElem?
    intro t
    rw [List.getElem?_take]
    have hcs : l.length * 2 ≤ cur.size := by rw [hs]; exact Nat.mul_le_mul_right 2 hcn
    by_cases ht : t < l.length * 2
    · rw [if_pos ht, flat_pcs _ t (by rw [hsl]; exact ht)]
      unfold putCells
      rw [Array.getElem?_toList, Array.getElem?_mapIdx, Array.getElem?_eq_getElem (by omega)]
      show some _ = some _
      congr 1
      show (if 0 ≤ t ∧ t < 0 + (flatK pc 2 (sortL l).toArray).size then (flatK pc 2 (sortL l).toArray)[t - 0]! else cur[t]) = _
      rw [if_pos ⟨Nat.zero_le _, by rw [size_flatK, List.size_toArray, hsl]; omega⟩]
      rfl
    · rw [if_neg ht, List.getElem?_eq_none (by rw [pcs_length, hsl]; omega)]
theorem sort_none (c : Nat) (A : Option Addr) (w : World) : Calls Try.prog 17 #[.slice A 0 c, .func (.func 18) #[] #[]] w fun e w' => e = .returned (.tuple #[]) ∧ w' = w := AnyF.slices_SortFunc_none sortLink A c (.func (.func 18) #[] #[]) w
end Go.Proofs.Ytkbfnhkcmelneaa

