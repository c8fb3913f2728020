/- Rows of structs: each element takes m cells. No program is in sight here. -/
import Derived.Test.YtgbkgiglagfciaaBase
namespace Go.Proofs.Ytgbkgiglagfciaa
open Go.RowKit
section
variable {α : Type} {f : α → List Value} {m : Nat}
theorem flat_length (hf : ∀ a, (f a).length = m) (l : List α) : (l.flatMap f).length = l.length * m := by
  induction l with
  | nil => simp
  | cons a l ih => simp [ih, hf, Nat.add_mul]; omega
theorem flat_get (hf : ∀ a, (f a).length = m) {l : List α} {i j : Nat} {a : α} (h : l[i]? = some a) (hj : j < m) : (l.flatMap f)[i * m + j]? = (f a)[j]? := by
  induction l generalizing i with
  | nil => simp at h
  | cons b l ih =>
    cases i with
    | zero =>
      simp at h
      subst h
      rw [List.flatMap_cons, List.getElem?_append_left (by rw [hf]; omega)]
      simp
    | succ i =>
      rw [List.flatMap_cons, List.getElem?_append_right (by rw [hf, Nat.add_mul]; omega), hf, Nat.add_mul, Nat.one_mul, show i * m + m + j - m = i * m + j by omega]
      exact ih (by simpa using h)
theorem Row.el {w : World} {A : Option Addr} {l : List α} (hf : ∀ a, (f a).length = m) (hm : 0 < m) (hr : Row w A (l.flatMap f)) {i : Nat} {a : α} (h : l[i]? = some a) :
    ∃ ob oo, A = some ⟨ob, oo, none⟩ ∧ ∀ j u, (f a)[j]? = some u → w.cell? ⟨ob, oo + i * m + j, none⟩ = some u := by
  have hl : 0 < (l.flatMap f).length := by
    rw [flat_length hf]
    have := (List.getElem?_eq_some_iff.1 h).1
    exact Nat.mul_pos (by omega) hm
  obtain ⟨ob, oo, e, hc⟩ := hr hl
  refine ⟨ob, oo, e, fun j u hu => ?_⟩
  have hj : j < m := by
    have := (List.getElem?_eq_some_iff.1 hu).1
    rwa [hf] at this
  rw [Nat.add_assoc]
  exact hc _ _ ((flat_get hf h hj).trans hu)
end

/-- The cells of a link. -/
def pc (p : Int × Int) : List Value := [.int .i64 p.1, .int .i64 p.2]
theorem pc_len (p : Int × Int) : (pc p).length = 2 := rfl
def pcs (l : List (Int × Int)) : List Value := l.flatMap pc
theorem pcs_length (l : List (Int × Int)) : (pcs l).length = l.length * 2 := flat_length pc_len l
theorem pcs_snoc (l : List (Int × Int)) (p : Int × Int) : pcs (l ++ [p]) = pcs l ++ [.int .i64 p.1, .int .i64 p.2] := by simp [pcs, pc]
theorem Row.link {w : World} {A : Option Addr} {l : List (Int × Int)} (hr : Row w A (pcs l)) {i : Nat} {p : Int × Int} (h : l[i]? = some p) :
    ∃ ob oo, A = some ⟨ob, oo, none⟩ ∧ w.cell? ⟨ob, oo + i * 2, none⟩ = some (.int .i64 p.1) ∧ w.cell? ⟨ob, oo + i * 2 + 1, none⟩ = some (.int .i64 p.2) := by
  obtain ⟨ob, oo, e, hc⟩ := Row.el pc_len (by omega) hr h
  exact ⟨ob, oo, e, hc 0 _ rfl, hc 1 _ rfl⟩
theorem Row.int {w : World} {A : Option Addr} {l : List Int} (hr : Row w A (l.map (Value.int .i64))) {i : Nat} {x : Int} (h : l[i]? = some x) :
    ∃ ob oo, A = some ⟨ob, oo, none⟩ ∧ w.cell? ⟨ob, oo + i, none⟩ = some (.int .i64 x) := hr.at_ (by rw [List.getElem?_map, h]; rfl)
end Go.Proofs.Ytgbkgiglagfciaa
