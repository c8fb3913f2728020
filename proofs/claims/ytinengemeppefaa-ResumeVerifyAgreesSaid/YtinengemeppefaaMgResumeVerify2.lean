/- An array that the call itself made, known whole: one cell an element. No program is in sight here. -/
import Derived.Test.YtinengemeppefaaBase
import Derived.Test.YtinengemeppefaaGraM4Mg
namespace Go.Proofs.Ytinengemeppefaa
open Go.RowKit

def Arr {α : Type} (w : World) (g : Nat) (t : TypeId) (f : α → Value) (l : List α) : Prop := Blk w g t (l.map f).toArray

section
variable {α : Type} {w w' : World} {g : Nat} {t : TypeId} {f : α → Value} {l l' : List α} {S : List Nat}
theorem Arr.lt (h : Arr w g t f l) : g < w.heap.size := Blk.lt h
theorem Arr.cell (h : Arr w g t f l) {i : Nat} {x : α} (hx : l[i]? = some x) : w.cell? ⟨g, i, none⟩ = some (f x) := (Blk.cell h i).trans (by simp [hx])
theorem Arr.frozen (h : Arr w g t f l) (i : Nat) : w.frozen? ⟨g, i, none⟩ = false := Blk.frozen h i
theorem Arr.set_ (h : Arr w g t f l) (i : Nat) (y : α) : Arr (w.setCell ⟨g, i, none⟩ (f y)) g t f (l.set i y) := by
  have := Blk.set_ h i (f y)
  unfold Arr
  rw [List.map_set]
  simpa using this
theorem Arr.far (h : Arr w g t f l) {p : Addr} (hp : g ≠ p.block) (u : Value) : Arr (w.setCell p u) g t f l := Blk.far h hp u
theorem Arr.fr (h : Arr w g t f l) (k : Fr S w w') (hg : g ∉ S) : Arr w' g t f l := Blk.fr h k hg
theorem Arr.fr0 (h : Arr w g t f l) (k : Fr [] w w') : Arr w' g t f l := Blk.fr h k (by simp)
theorem Arr.row (h : Arr w g t f l) : Row w (some ⟨g, 0, none⟩) (l.map f) := fun _ => ⟨g, 0, rfl, fun i u hu => by
  rw [Nat.zero_add]
  exact (Blk.cell h i).trans (by simpa using hu)⟩
theorem Arr.new (w : World) (t : TypeId) (f : α → Value) (x : α) (n : Nat) : Arr (w.alloc (.cells (Array.replicate n (f x)) t)) w.heap.size t f (List.replicate n x) := by
  have := Blk.new w t (Array.replicate n (f x))
  unfold Arr
  rwa [List.map_replicate, List.toArray_replicate]
theorem Arr.ne {β : Type} {g' : Nat} {t' : TypeId} {f' : β → Value} {l' : List β} (h : Arr w g t f l) (h' : Arr w g' t' f' l') (hne : t ≠ t') : g ≠ g' := Blk.ne_ h h' hne
theorem Arr.size_ (h : Arr w g t f l) (h' : Arr w g t f l') (hf : ∀ x y, f x = f y → x = y) : l = l' := by
  unfold Arr Blk at h h'
  rw [h] at h'
  injection h' with h'
  injection h' with h'
  have := congrArg Array.toList h'
  simp at this
  exact (List.map_inj_right (fun x y e => hf x y e)).1 this
end
/-- An array of n elements, told by a function. -/
def FA {α : Type} (w : World) (g : Nat) (t : TypeId) (e : α → Value) (n : Nat) (f : Nat → α) : Prop := Arr w g t e ((List.range n).map f)
section
variable {α : Type} {w w' : World} {g : Nat} {t : TypeId} {e : α → Value} {n : Nat} {f f' : Nat → α} {S : List Nat}
theorem FA.lt (h : FA w g t e n f) : g < w.heap.size := Arr.lt h
theorem FA.cell (h : FA w g t e n f) {i : Nat} (hi : i < n) : w.cell? ⟨g, i, none⟩ = some (e (f i)) := Arr.cell h (by simp [hi])
theorem FA.frozen (h : FA w g t e n f) (i : Nat) : w.frozen? ⟨g, i, none⟩ = false := Arr.frozen h i
theorem FA.congr (h : FA w g t e n f) (hf : ∀ i, i < n → f i = f' i) : FA w g t e n f' := by
  unfold FA at h ⊢
  rwa [List.map_congr_left (g := f) (fun i hi => (hf i (List.mem_range.1 hi)).symm)]
theorem FA.set_ (h : FA w g t e n f) (i : Nat) (y : α) : FA (w.setCell ⟨g, i, none⟩ (e y)) g t e n (fun j => if j = i then y else f j) := by
  have := Arr.set_ h i y
  unfold FA
  have e1 : ((List.range n).map f).set i y = (List.range n).map (fun j => if j = i then y else f j) := by
    apply List.ext_getElem?
    intro j
    rw [List.getElem?_set]
    by_cases hj : j < n
    · by_cases hij : i = j
      · subst hij; simp [hj]
      · have hji : ¬ j = i := fun h => hij h.symm
        simp [hj, hij, hji]
    · by_cases hij : i = j
      · subst hij; simp [hj]
      · simp [hj, hij]
  rwa [e1] at this
theorem FA.far (h : FA w g t e n f) {p : Addr} (hp : g ≠ p.block) (u : Value) : FA (w.setCell p u) g t e n f := Arr.far h hp u
theorem FA.fr (h : FA w g t e n f) (k : Fr S w w') (hg : g ∉ S) : FA w' g t e n f := Arr.fr h k hg
theorem FA.fr0 (h : FA w g t e n f) (k : Fr [] w w') : FA w' g t e n f := Arr.fr0 h k
theorem FA.row (h : FA w g t e n f) : Row w (some ⟨g, 0, none⟩) (((List.range n).map f).map e) := Arr.row h
theorem FA.new (w : World) (t : TypeId) (e : α → Value) (x : α) (n : Nat) : FA (w.alloc (.cells (Array.replicate n (e x)) t)) w.heap.size t e n (fun _ => x) := by
  have := Arr.new w t e x n
  unfold FA
  rwa [List.map_const', List.length_range]
end
abbrev iv (x : Int) : Value := .int .i64 x
abbrev bv (x : Bool) : Value := .bool x
end Go.Proofs.Ytinengemeppefaa

/- The plain model of levels. -/
namespace Go.Proofs.Ytinengemeppefaa
open Go.RowKit

def levS (v : Nat) (f : Nat → Nat) (s : Nat) : Nat → Nat := fun u => if u = v then max (f v) (f s + 1) else f u
def levV (L : List (Nat × Nat)) (f : Nat → Nat) (v : Nat) : Nat → Nat := (nb false L v).foldl (levS v) f
def levs (L : List (Nat × Nat)) (o : List Nat) : Nat → Nat := o.foldl (levV L) (fun _ => 0)
def levP (v : Nat) (f : Nat → Nat) (p : Nat × Nat) : Nat → Nat := if p.1 = v then levS v f p.2 else f
theorem levV_links (L : List (Nat × Nat)) (f : Nat → Nat) (v : Nat) : L.foldl (levP v) f = levV L f v := by
  unfold levV nb
  induction L generalizing f with
  | nil => rfl
  | cons p L ih =>
    by_cases h : p.1 = v
    · simp [ends, h, levP] at ih ⊢
      exact ih _
    · simp [ends, h, levP] at ih ⊢
      exact ih _
theorem levS_le {v s b : Nat} {f : Nat → Nat} (h : ∀ u, f u ≤ b) : ∀ u, levS v f s u ≤ b + 1 := fun u => by
  unfold levS
  have h1 := h v
  have h2 := h s
  have h3 := h u
  split <;> omega
theorem fold_le {v b : Nat} : ∀ (C : List Nat) (f : Nat → Nat), (∀ u, f u ≤ b) → ∀ u, C.foldl (levS v) f u ≤ b + C.length
  | [], f, h => by simpa using h
  | c :: C, f, h => fun u => by
    have := fold_le (v := v) (b := b + 1) C (levS v f c) (levS_le h) u
    simp
    omega
theorem levs_le {L : List (Nat × Nat)} (hL : L.length ≤ 1024) : ∀ (o : List Nat) (f : Nat → Nat) (b : Nat), (∀ u, f u ≤ b) → ∀ u, o.foldl (levV L) f u ≤ b + o.length * 1024
  | [], f, b, h => by simpa using h
  | c :: C, f, b, h => fun u => by
    have h1 : ∀ u, levV L f c u ≤ b + 1024 := fun u => by
      have := fold_le (v := c) (nb false L c) f h u
      have h2 := nb_length_le false L c
      unfold levV
      omega
    have := levs_le hL C (levV L f c) (b + 1024) h1 u
    simp
    omega
theorem levs_bound {L : List (Nat × Nat)} (hL : L.length ≤ 1024) {o : List Nat} (ho : o.length ≤ 128) (u : Nat) : levs L o u ≤ 131072 := by
  have := levs_le hL o (fun _ => 0) 0 (fun _ => Nat.le_refl _) u
  unfold levs
  omega
theorem levs_snoc (L : List (Nat × Nat)) (o : List Nat) (v : Nat) : levs L (o ++ [v]) = levV L (levs L o) v := by simp [levs]

theorem FA.own {α : Type} {w : World} {g n base : Nat} {t : TypeId} {e : α → Value} {f : Nat → α} (h : FA w g t e n f) (hb : base ≤ g) (hn : n ≤ maxLen) :
    w.ownsRow base t 1 (.slice (some ⟨g, 0, none⟩) n n) n (((List.range n).map f).map e) :=
  ⟨by simp, .inr ⟨g, n, _, rfl, hb, h, Nat.le_refl _, hn, by simp, List.take_of_length_le (by simp)⟩⟩
end Go.Proofs.Ytinengemeppefaa

