/- A row of slots that the walk owns, with some cells written over. -/
import Derived.Test.YtinengemeppefaaSchW9Mg
namespace Go.Proofs.Ytinengemeppefaa
open Go.RowKit
/-- The list lies at the beginning of a block's cells. -/
def Pre (cur : Array Value) (xs : List Value) : Prop := ∀ (i : Nat) (u : Value), xs[i]? = some u → cur[i]? = some u
theorem Pre.set_ {cur : Array Value} {xs : List Value} (h : Pre cur xs) (i : Nat) (u : Value) : Pre (cur.setIfInBounds i u) (xs.set i u) := by
  intro j v hv
  rw [List.getElem?_set] at hv
  rw [Array.getElem?_setIfInBounds]
  by_cases e : i = j
  · rw [if_pos e] at hv ⊢
    by_cases e2 : i < xs.length
    · have h1 := h i _ (List.getElem?_eq_getElem e2)
      have h2 : i < cur.size := (Array.getElem?_eq_some_iff.1 h1).1
      rw [if_pos e2] at hv
      rw [if_pos h2]
      exact hv
    · rw [if_neg e2] at hv
      cases hv
  · rw [if_neg e] at hv ⊢
    exact h j v hv
/-- A block whose cells begin with the list. -/
def OwnR (w : World) (g : Nat) (t : TypeId) (xs : List Value) : Prop := ∃ cur, Blk w g t cur ∧ Pre cur xs
section
variable {w w' : World} {g : Nat} {t : TypeId} {xs : List Value} {S : List Nat}
theorem OwnR.lt (h : OwnR w g t xs) : g < w.heap.size := by
  obtain ⟨cur, h1, _⟩ := h
  exact h1.lt
theorem OwnR.cell (h : OwnR w g t xs) {i : Nat} {u : Value} (hi : xs[i]? = some u) : w.cell? ⟨g, i, none⟩ = some u := by
  obtain ⟨cur, h1, h2⟩ := h
  exact (h1.cell i).trans (h2 i u hi)
theorem OwnR.frozen (h : OwnR w g t xs) (i : Nat) : w.frozen? ⟨g, i, none⟩ = false := by
  obtain ⟨cur, h1, _⟩ := h
  exact h1.frozen i
theorem OwnR.set_ (h : OwnR w g t xs) (i : Nat) (u : Value) : OwnR (w.setCell ⟨g, i, none⟩ u) g t (xs.set i u) := by
  obtain ⟨cur, h1, h2⟩ := h
  exact ⟨_, h1.set_ i u, h2.set_ i u⟩
theorem OwnR.fr0 (h : OwnR w g t xs) (k : Fr [] w w') : OwnR w' g t xs := by
  obtain ⟨cur, h1, h2⟩ := h
  exact ⟨cur, h1.fr k (by simp), h2⟩
theorem OwnR.row (h : OwnR w g t xs) : Row w (some ⟨g, 0, none⟩) xs := fun _ => ⟨g, 0, rfl, fun i u hi => by
  rw [Nat.zero_add]
  exact h.cell hi⟩
theorem OwnR.drop (h : OwnR w g t xs) (m : Nat) : Row w (some ⟨g, m, none⟩) (xs.drop m) := fun _ => ⟨g, m, rfl, fun i u hi => by
  rw [List.getElem?_drop] at hi
  exact h.cell hi⟩
theorem own_cut {base : Nat} {size : Nat} {v : Value} {n : Nat} (h : w.ownsRow base t size v n xs) (hn : 0 < n) :
    ∃ g cp, v = .slice (some ⟨g, 0, none⟩) n cp ∧ n ≤ cp ∧ base ≤ g ∧ OwnR w g t xs := by
  have hl := h.1
  rcases h.2 with ⟨h0, h1⟩ | ⟨g, cap, cur, hv, hb, hh, hnc, _, hcur, hx⟩
  · omega
  · refine ⟨g, cap, hv, hnc, hb, cur, hh, fun i u hi => ?_⟩
    rw [← hx, List.getElem?_take] at hi
    split at hi
    · simpa using hi
    · cases hi
end
theorem flat_set {α : Type} {f : α → List Value} {m : Nat} (hf : ∀ a, (f a).length = m) : ∀ {l : List α} {i : Nat} {x y : α} {j : Nat} {v : Value}, l[i]? = some x → j < m → f y = (f x).set j v → (l.flatMap f).set (i * m + j) v = (l.set i y).flatMap f
  | [], i, x, y, j, v, h, _, _ => by simp at h
  | a :: l, 0, x, y, j, v, h, hj, e => by
    simp at h
    subst h
    simp only [List.flatMap_cons, List.set_cons_zero, Nat.zero_mul, Nat.zero_add]
    rw [List.set_append_left _ _ (by rw [hf]; exact hj), e]
  | a :: l, i + 1, x, y, j, v, h, hj, e => by
    simp only [List.getElem?_cons_succ] at h
    simp only [List.flatMap_cons, List.set_cons_succ]
    have hk : (i + 1) * m + j = (f a).length + (i * m + j) := by rw [hf, Nat.add_mul]; omega
    rw [hk, List.set_append_right _ _ (by omega), Nat.add_sub_cancel_left, flat_set hf h hj e]
theorem rcells_length (l : List RSl) : (rcells l).length = l.length * 4 := flat_length rcell_len l
section
variable {l : List RSl} {i : Nat} {x : RSl}
theorem rcells_d (h : l[i]? = some x) (v : Int) : (rcells l).set (i * 4) (.int .i64 v) = rcells (l.set i { x with d := v }) := flat_set rcell_len (j := 0) h (by omega) rfl
theorem rcells_w (h : l[i]? = some x) (v : Int) : (rcells l).set (i * 4 + 1) (.int .i64 v) = rcells (l.set i { x with w := v }) := flat_set rcell_len h (by omega) rfl
theorem rcells_s (h : l[i]? = some x) (v : Nat) : (rcells l).set (i * 4 + 2) (uv v) = rcells (l.set i { x with s := v }) := flat_set rcell_len h (by omega) rfl
theorem rcells_e (h : l[i]? = some x) (v : Nat) : (rcells l).set (i * 4 + 3) (uv v) = rcells (l.set i { x with e := v }) := flat_set rcell_len h (by omega) rfl
theorem rcells_se (h : l[i]? = some x) (v u : Nat) : ((rcells l).set (i * 4 + 2) (uv v)).set (i * 4 + 3) (uv u) = rcells (l.set i { x with s := v, e := u }) := by
  have hi : i < l.length := (List.getElem?_eq_some_iff.1 h).1
  rw [rcells_s h, rcells_e (x := { x with s := v }) (by simp [hi]) u, List.set_set]
theorem rcells_cells (h : l[i]? = some x) : (rcells l)[i * 4]? = some (.int .i64 x.d) ∧ (rcells l)[i * 4 + 1]? = some (.int .i64 x.w) ∧ (rcells l)[i * 4 + 2]? = some (.int .u64 (x.s : Int)) ∧ (rcells l)[i * 4 + 3]? = some (.int .u64 (x.e : Int)) :=
  ⟨flat_get rcell_len (j := 0) h (by omega), flat_get rcell_len (j := 1) h (by omega), flat_get rcell_len (j := 2) h (by omega), flat_get rcell_len (j := 3) h (by omega)⟩
theorem rcells_tail (x : RSl) (l : List RSl) : (rcells (x :: l)).drop 4 = rcells l := by
  simp [rcells, rcell]
theorem fits_set (h : ∀ y ∈ l, RFits y) {z : RSl} (hz : RFits z) : ∀ y ∈ l.set i z, RFits y := fun y hy => by
  rcases List.mem_or_eq_of_mem_set hy with h1 | h1
  · exact h y h1
  · exact h1 ▸ hz
end
end Go.Proofs.Ytinengemeppefaa

