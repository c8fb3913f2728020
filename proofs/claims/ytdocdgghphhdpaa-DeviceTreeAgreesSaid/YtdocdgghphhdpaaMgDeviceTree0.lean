/- An array that the call itself made, known whole: one cell an element. No program is in sight here. -/
import Derived.Test.YtdocdgghphhdpaaBase
import Derived.Test.YtdocdgghphhdpaaProg
import Derived.Deep.QuietTactic
import Derived.BigQuiet
import Derived.Lib.Hide
import Derived.Deep.LoopGhost
namespace Go.Proofs.Ytdocdgghphhdpaa
open Go.RowKit

def Arr {α : Type} (w : World) (g : Nat) (t : TypeId) (f : α → Value) (l : List α) : Prop := Blk w g t (l.map f).toArray

section
variable {α : Type} {w w' : World} {g : Nat} {t : TypeId} {f : α → Value} {l l' : List α} {S : List Nat}
theorem Arr.lt (h : Arr w g t f l) : g < w.heap.size := Blk.lt h
theorem Arr.cell (h : Arr w g t f l) {i : Nat} {x : α} (hx : l[i]? = some x) : w.cell? ⟨g, i, none⟩ = some (f x) := (Blk.cell h i).trans (by simp [hx])
theorem Arr.frozen (h : Arr w g t f l) (i : Nat) : w.frozen? ⟨g, i, none⟩ = false := Blk.frozen h i
theorem Arr.set_ (h : Arr w g t f l) (i : Nat) (y : α) : Arr (w.setCell ⟨g, i, none⟩ (f y)) g t f (l.set i y) := by
  have := Blk.set_ h i (f y)
  unfold Arr
  rw [List.map_set]
  simpa using this
theorem Arr.far (h : Arr w g t f l) {p : Addr} (hp : g ≠ p.block) (u : Value) : Arr (w.setCell p u) g t f l := Blk.far h hp u
theorem Arr.fr (h : Arr w g t f l) (k : Fr S w w') (hg : g ∉ S) : Arr w' g t f l := Blk.fr h k hg
theorem Arr.fr0 (h : Arr w g t f l) (k : Fr [] w w') : Arr w' g t f l := Blk.fr h k (by simp)
theorem Arr.row (h : Arr w g t f l) : Row w (some ⟨g, 0, none⟩) (l.map f) := fun _ => ⟨g, 0, rfl, fun i u hu => by
  rw [Nat.zero_add]
  exact (Blk.cell h i).trans (by simpa using hu)⟩
theorem Arr.new (w : World) (t : TypeId) (f : α → Value) (x : α) (n : Nat) : Arr (w.alloc (.cells (Array.replicate n (f x)) t)) w.heap.size t f (List.replicate n x) := by
  have := Blk.new w t (Array.replicate n (f x))
  unfold Arr
  rwa [List.map_replicate, List.toArray_replicate]
theorem Arr.ne {β : Type} {g' : Nat} {t' : TypeId} {f' : β → Value} {l' : List β} (h : Arr w g t f l) (h' : Arr w g' t' f' l') (hne : t ≠ t') : g ≠ g' := Blk.ne_ h h' hne
theorem Arr.size_ (h : Arr w g t f l) (h' : Arr w g t f l') (hf : ∀ x y, f x = f y → x = y) : l = l' := by
  unfold Arr Blk at h h'
  rw [h] at h'
  injection h' with h'
  injection h' with h'
  have := congrArg Array.toList h'
  simp at this
  exact (List.map_inj_right (fun x y e => hf x y e)).1 this
end
/-- An array of n elements, told by a function. -/
def FA {α : Type} (w : World) (g : Nat) (t : TypeId) (e : α → Value) (n : Nat) (f : Nat → α) : Prop := Arr w g t e ((List.range n).map f)
section
variable {α : Type} {w w' : World} {g : Nat} {t : TypeId} {e : α → Value} {n : Nat} {f f' : Nat → α} {S : List Nat}
theorem FA.lt (h : FA w g t e n f) : g < w.heap.size := Arr.lt h
theorem FA.cell (h : FA w g t e n f) {i : Nat} (hi : i < n) : w.cell? ⟨g, i, none⟩ = some (e (f i)) := Arr.cell h (by simp [hi])
theorem FA.frozen (h : FA w g t e n f) (i : Nat) : w.frozen? ⟨g, i, none⟩ = false := Arr.frozen h i
theorem FA.congr (h : FA w g t e n f) (hf : ∀ i, i < n → f i = f' i) : FA w g t e n f' := by
  unfold FA at h ⊢
  rwa [List.map_congr_left (g := f) (fun i hi => (hf i (List.mem_range.1 hi)).symm)]
theorem FA.set_ (h : FA w g t e n f) (i : Nat) (y : α) : FA (w.setCell ⟨g, i, none⟩ (e y)) g t e n (fun j => if j = i then y else f j) := by
  have := Arr.set_ h i y
  unfold FA
  have e1 : ((List.range n).map f).set i y = (List.range n).map (fun j => if j = i then y else f j) := by
    apply List.ext_getElem?
    intro j
    rw [List.getElem?_set]
    by_cases hj : j < n
    · by_cases hij : i = j
      · subst hij; simp [hj]
      · have hji : ¬ j = i := fun h => hij h.symm
        simp [hj, hij, hji]
    · by_cases hij : i = j
      · subst hij; simp [hj]
      · simp [hj, hij]
  rwa [e1] at this
theorem FA.far (h : FA w g t e n f) {p : Addr} (hp : g ≠ p.block) (u : Value) : FA (w.setCell p u) g t e n f := Arr.far h hp u
theorem FA.fr (h : FA w g t e n f) (k : Fr S w w') (hg : g ∉ S) : FA w' g t e n f := Arr.fr h k hg
theorem FA.fr0 (h : FA w g t e n f) (k : Fr [] w w') : FA w' g t e n f := Arr.fr0 h k
theorem FA.row (h : FA w g t e n f) : Row w (some ⟨g, 0, none⟩) (((List.range n).map f).map e) := Arr.row h
theorem FA.new (w : World) (t : TypeId) (e : α → Value) (x : α) (n : Nat) : FA (w.alloc (.cells (Array.replicate n (e x)) t)) w.heap.size t e n (fun _ => x) := by
  have := Arr.new w t e x n
  unfold FA
  rwa [List.map_const', List.length_range]
end
abbrev iv (x : Int) : Value := .int .i64 x
abbrev bv (x : Bool) : Value := .bool x
end Go.Proofs.Ytdocdgghphhdpaa

/- Rows of structs: each element takes m cells. No program is in sight here. -/
namespace Go.Proofs.Ytdocdgghphhdpaa
open Go.RowKit
section
variable {α : Type} {f : α → List Value} {m : Nat}
theorem flat_length (hf : ∀ a, (f a).length = m) (l : List α) : (l.flatMap f).length = l.length * m := by
  induction l with
  | nil => simp
  | cons a l ih => simp [ih, hf, Nat.add_mul]; omega
theorem flat_get (hf : ∀ a, (f a).length = m) {l : List α} {i j : Nat} {a : α} (h : l[i]? = some a) (hj : j < m) : (l.flatMap f)[i * m + j]? = (f a)[j]? := by
  induction l generalizing i with
  | nil => simp at h
  | cons b l ih =>
    cases i with
    | zero =>
      simp at h
      subst h
      rw [List.flatMap_cons, List.getElem?_append_left (by rw [hf]; omega)]
      simp
    | succ i =>
      rw [List.flatMap_cons, List.getElem?_append_right (by rw [hf, Nat.add_mul]; omega), hf, Nat.add_mul, Nat.one_mul, show i * m + m + j - m = i * m + j by omega]
      exact ih (by simpa using h)
theorem Row.el {w : World} {A : Option Addr} {l : List α} (hf : ∀ a, (f a).length = m) (hm : 0 < m) (hr : Row w A (l.flatMap f)) {i : Nat} {a : α} (h : l[i]? = some a) :
    ∃ ob oo, A = some ⟨ob, oo, none⟩ ∧ ∀ j u, (f a)[j]? = some u → w.cell? ⟨ob, oo + i * m + j, none⟩ = some u := by
  have hl : 0 < (l.flatMap f).length := by
    rw [flat_length hf]
    have := (List.getElem?_eq_some_iff.1 h).1
    exact Nat.mul_pos (by omega) hm
  obtain ⟨ob, oo, e, hc⟩ := hr hl
  refine ⟨ob, oo, e, fun j u hu => ?_⟩
  have hj : j < m := by
    have := (List.getElem?_eq_some_iff.1 hu).1
    rwa [hf] at this
  rw [Nat.add_assoc]
  exact hc _ _ ((flat_get hf h hj).trans hu)
end

/-- The cells of a link. -/
def pc (p : Int × Int) : List Value := [.int .i64 p.1, .int .i64 p.2]
theorem pc_len (p : Int × Int) : (pc p).length = 2 := rfl
def pcs (l : List (Int × Int)) : List Value := l.flatMap pc
theorem pcs_length (l : List (Int × Int)) : (pcs l).length = l.length * 2 := flat_length pc_len l
theorem pcs_snoc (l : List (Int × Int)) (p : Int × Int) : pcs (l ++ [p]) = pcs l ++ [.int .i64 p.1, .int .i64 p.2] := by simp [pcs, pc]
theorem Row.link {w : World} {A : Option Addr} {l : List (Int × Int)} (hr : Row w A (pcs l)) {i : Nat} {p : Int × Int} (h : l[i]? = some p) :
    ∃ ob oo, A = some ⟨ob, oo, none⟩ ∧ w.cell? ⟨ob, oo + i * 2, none⟩ = some (.int .i64 p.1) ∧ w.cell? ⟨ob, oo + i * 2 + 1, none⟩ = some (.int .i64 p.2) := by
  obtain ⟨ob, oo, e, hc⟩ := Row.el pc_len (by omega) hr h
  exact ⟨ob, oo, e, hc 0 _ rfl, hc 1 _ rfl⟩
theorem Row.int {w : World} {A : Option Addr} {l : List Int} (hr : Row w A (l.map (Value.int .i64))) {i : Nat} {x : Int} (h : l[i]? = some x) :
    ∃ ob oo, A = some ⟨ob, oo, none⟩ ∧ w.cell? ⟨ob, oo + i, none⟩ = some (.int .i64 x) := hr.at_ (by rw [List.getElem?_map, h]; rfl)
end Go.Proofs.Ytdocdgghphhdpaa

/- Power devices as values: the parent, four lists of rails, six deepest states, two numbers. -/
namespace Go.Proofs.Ytdocdgghphhdpaa
open Go.RowKit

structure PD where
  par : Int
  rf : Nat → Value
  df : Nat → Int
  wd : Int
  ws : Int
def PD.cells (d : PD) : Array Value := #[.int .i64 d.par, d.rf 0, d.rf 1, d.rf 2, d.rf 3, .int .i64 (d.df 0), .int .i64 (d.df 1), .int .i64 (d.df 2), .int .i64 (d.df 3), .int .i64 (d.df 4), .int .i64 (d.df 5), .int .i64 d.wd, .int .i64 d.ws]
theorem PD.rail (d : PD) {k : Nat} (h : k < 4) : d.cells[1 + k]? = some (d.rf k) := by
  have : k = 0 ∨ k = 1 ∨ k = 2 ∨ k = 3 := by omega
  rcases this with rfl | rfl | rfl | rfl <;> rfl
theorem PD.deep (d : PD) {k : Nat} (h : k < 6) : d.cells[5 + k]? = some (.int .i64 (d.df k)) := by
  have : k = 0 ∨ k = 1 ∨ k = 2 ∨ k = 3 ∨ k = 4 ∨ k = 5 := by omega
  rcases this with rfl | rfl | rfl | rfl | rfl | rfl <;> rfl
def targetM (d : PD) (s : Int) (wake : Bool) : Int × Int :=
  if s < 0 ∨ 5 < s then (0, 1) else if wake = false then (d.df s.toNat, 0) else if d.ws < s then (0, 13) else (min (d.df s.toNat) d.wd, 0)
set_option maxHeartbeats 2000000 in
set_option maxRecDepth 100000 in
theorem target27_any (d : PD) (s : Int) (wake : Bool) (w : World) :
    Calls Try.prog 54 #[.agg d.cells, .int .i64 s, .bool wake] w fun e w' => e = .returned (.tuple #[.int .i64 (targetM d s wake).1, .int .i64 (targetM d s wake).2]) ∧ Fr [] w w' := by
  have hbk := Blk.new w 46 d.cells
  have hfr : Fr [] w (w.alloc (.cells d.cells 46)) := (Fr.refl _ _).alloc _
  by_cases hs : s < 0 ∨ 5 < s
  · have hm : targetM d s wake = (0, 1) := by simp [targetM, hs]
    have HM := hide hm
    clear hm hbk
    rcases hs with hs | hs
    · go_enter Try.func54, Try.ntmps54
      go_wp2
      go_ret2
      exact ⟨by rw [HM.out]; rfl, hfr⟩
    · have hs0 : ¬ s < 0 := by omega
      go_enter Try.func54, Try.ntmps54
      go_wp2
      go_ret2
      exact ⟨by rw [HM.out]; rfl, hfr⟩
  · obtain ⟨k, hk⟩ := Int.eq_ofNat_of_zero_le (show 0 ≤ s by omega)
    subst hk
    have hk6 : k < 6 := by omega
    have c1 : (w.alloc (.cells d.cells 46)).cell? ⟨w.heap.size, 5 + k, none⟩ = some (.int .i64 (d.df k)) := (hbk.cell (5 + k)).trans (d.deep hk6)
    have c2 : (w.alloc (.cells d.cells 46)).cell? ⟨w.heap.size, 11, none⟩ = some (.int .i64 d.wd) := hbk.cell 11
    have c3 : (w.alloc (.cells d.cells 46)).cell? ⟨w.heap.size, 12, none⟩ = some (.int .i64 d.ws) := hbk.cell 12
    have h1 : (k : Int) < 6 := by omega
    have h2 : (k : Int) ≤ 5 := by omega
    have HMD := hide (show targetM d (k : Int) wake = if wake = false then (d.df k, 0) else if d.ws < (k : Int) then (0, 13) else (min (d.df k) d.wd, 0) by
      unfold targetM
      rw [if_neg hs, Int.toNat_natCast])
    clear hs hbk
    cases wake with
    | false =>
      rw [if_pos rfl] at HMD
      go_enter Try.func54, Try.ntmps54
      go_wp2
      go_ret2
      exact ⟨by rw [HMD.out]; rfl, hfr⟩
    | true =>
      rw [if_neg (by decide)] at HMD
      generalize d.df k = x at c1 HMD
      generalize d.wd = wd at c2 HMD
      by_cases hw : d.ws < (k : Int)
      · rw [if_pos hw] at HMD
        go_enter Try.func54, Try.ntmps54
        go_wp2
        go_ret2
        exact ⟨by rw [HMD.out]; rfl, hfr⟩
      · rw [if_neg hw] at HMD
        by_cases hle : x ≤ wd
        · rw [Int.min_eq_left hle] at HMD
          go_enter Try.func54, Try.ntmps54
          go_wp2
          go_quiet (fail)
          go_wp2
          all_goals
            go_ret2
            exact ⟨by first | (rw [HMD.out]; rfl) | (rw [HMD.out]; simp; omega), hfr.drewN _⟩
        · rw [Int.min_eq_right (by omega)] at HMD
          go_enter Try.func54, Try.ntmps54
          go_wp2
          go_quiet (fail)
          go_wp2
          all_goals
            go_ret2
            exact ⟨by first | (rw [HMD.out]; rfl) | (rw [HMD.out]; simp; omega), hfr.drewN _⟩
end Go.Proofs.Ytdocdgghphhdpaa

