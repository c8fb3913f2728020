/- Rows of structs: each element takes m cells. No program is in sight here. -/
import Derived.Test.YtinengemeppefaaBase
namespace Go.Proofs.Ytinengemeppefaa
open Go.RowKit
section
variable {α : Type} {f : α → List Value} {m : Nat}
theorem flat_length (hf : ∀ a, (f a).length = m) (l : List α) : (l.flatMap f).length = l.length * m := by
  induction l with
  | nil => simp
  | cons a l ih => simp [ih, hf, Nat.add_mul]; omega
theorem flat_get (hf : ∀ a, (f a).length = m) {l : List α} {i j : Nat} {a : α} (h : l[i]? = some a) (hj : j < m) : (l.flatMap f)[i * m + j]? = (f a)[j]? := by
  induction l generalizing i with
  | nil => simp at h
  | cons b l ih =>
    cases i with
    | zero =>
      simp at h
      subst h
      rw [List.flatMap_cons, List.getElem?_append_left (by rw [hf]; omega)]
      simp
    | succ i =>
      rw [List.flatMap_cons, List.getElem?_append_right (by rw [hf, Nat.add_mul]; omega), hf, Nat.add_mul, Nat.one_mul, show i * m + m + j - m = i * m + j by omega]
      exact ih (by simpa using h)
theorem Row.el {w : World} {A : Option Addr} {l : List α} (hf : ∀ a, (f a).length = m) (hm : 0 < m) (hr : Row w A (l.flatMap f)) {i : Nat} {a : α} (h : l[i]? = some a) :
    ∃ ob oo, A = some ⟨ob, oo, none⟩ ∧ ∀ j u, (f a)[j]? = some u → w.cell? ⟨ob, oo + i * m + j, none⟩ = some u := by
  have hl : 0 < (l.flatMap f).length := by
    rw [flat_length hf]
    have := (List.getElem?_eq_some_iff.1 h).1
    exact Nat.mul_pos (by omega) hm
  obtain ⟨ob, oo, e, hc⟩ := hr hl
  refine ⟨ob, oo, e, fun j u hu => ?_⟩
  have hj : j < m := by
    have := (List.getElem?_eq_some_iff.1 hu).1
    rwa [hf] at this
  rw [Nat.add_assoc]
  exact hc _ _ ((flat_get hf h hj).trans hu)
end

/-- The cells of a link. -/
def pc (p : Int × Int) : List Value := [.int .i64 p.1, .int .i64 p.2]
theorem pc_len (p : Int × Int) : (pc p).length = 2 := rfl
def pcs (l : List (Int × Int)) : List Value := l.flatMap pc
theorem pcs_length (l : List (Int × Int)) : (pcs l).length = l.length * 2 := flat_length pc_len l
theorem pcs_snoc (l : List (Int × Int)) (p : Int × Int) : pcs (l ++ [p]) = pcs l ++ [.int .i64 p.1, .int .i64 p.2] := by simp [pcs, pc]
theorem Row.link {w : World} {A : Option Addr} {l : List (Int × Int)} (hr : Row w A (pcs l)) {i : Nat} {p : Int × Int} (h : l[i]? = some p) :
    ∃ ob oo, A = some ⟨ob, oo, none⟩ ∧ w.cell? ⟨ob, oo + i * 2, none⟩ = some (.int .i64 p.1) ∧ w.cell? ⟨ob, oo + i * 2 + 1, none⟩ = some (.int .i64 p.2) := by
  obtain ⟨ob, oo, e, hc⟩ := Row.el pc_len (by omega) hr h
  exact ⟨ob, oo, e, hc 0 _ rfl, hc 1 _ rfl⟩
theorem Row.int {w : World} {A : Option Addr} {l : List Int} (hr : Row w A (l.map (Value.int .i64))) {i : Nat} {x : Int} (h : l[i]? = some x) :
    ∃ ob oo, A = some ⟨ob, oo, none⟩ ∧ w.cell? ⟨ob, oo + i, none⟩ = some (.int .i64 x) := hr.at_ (by rw [List.getElem?_map, h]; rfl)
end Go.Proofs.Ytinengemeppefaa

/- The plain model of dependency graphs: what checkLinks, sequence and the reference's functions compute. No program is in sight here. -/
namespace Go.Proofs.Ytinengemeppefaa

def LinkOk (n : Int) (p : Int × Int) : Prop := 0 ≤ p.1 ∧ p.1 < n ∧ 0 ≤ p.2 ∧ p.2 < n
instance (n : Int) (p : Int × Int) : Decidable (LinkOk n p) := by unfold LinkOk; infer_instance
def LinksOk (n : Int) (l : List (Int × Int)) : Prop := 0 ≤ n ∧ n ≤ 128 ∧ l.length ≤ 1024 ∧ ∀ p ∈ l, LinkOk n p
instance (n : Int) (l : List (Int × Int)) : Decidable (LinksOk n l) := by unfold LinksOk; infer_instance
/-- checkLinks, and the reference's Basic. -/
def basicM (n : Int) (l : List (Int × Int)) : Int := if LinksOk n l then (if l.Nodup then 0 else 7) else 1
theorem basicM_not {n : Int} {l : List (Int × Int)} (h : ¬ LinksOk n l) : basicM n l = 1 := by simp [basicM, h]
theorem basicM_dup {n : Int} {l : List (Int × Int)} (h : LinksOk n l) (hd : ¬ l.Nodup) : basicM n l = 7 := by simp [basicM, h, hd]
theorem basicM_ok {n : Int} {l : List (Int × Int)} (h : LinksOk n l) (hd : l.Nodup) : basicM n l = 0 := by simp [basicM, h, hd]
theorem basicM_zero {n : Int} {l : List (Int × Int)} (h : basicM n l = 0) : LinksOk n l ∧ l.Nodup := by
  unfold basicM at h
  split at h
  · split at h
    · exact ⟨by assumption, by assumption⟩
    · cases h
  · cases h
theorem take_succ_some {α : Type} {l : List α} {k : Nat} {p : α} (h : l[k]? = some p) : l.take (k + 1) = l.take k ++ [p] := by rw [List.take_add_one, h]; rfl
theorem split_at_some {α : Type} {l : List α} {k : Nat} {p : α} (h : l[k]? = some p) : l = l.take k ++ p :: l.drop (k + 1) := by
  obtain ⟨hl, e⟩ := List.getElem?_eq_some_iff.1 h
  rw [← e, ← List.drop_eq_getElem_cons hl, List.take_append_drop]
/-- A link's ends as natural numbers. -/
def toN (p : Int × Int) : Nat × Nat := (p.1.toNat, p.2.toNat)
def toNs (l : List (Int × Int)) : List (Nat × Nat) := l.map toN
def ends (cons : Bool) (p : Nat × Nat) : Nat × Nat := if cons then (p.2, p.1) else p
/-- The suppliers of v or, if cons is true, its consumers, in the order of the links. -/
def nb (cons : Bool) (L : List (Nat × Nat)) (v : Nat) : List Nat := (L.filter fun p => (ends cons p).1 == v).map fun p => (ends cons p).2
def nbs (cons : Bool) (n : Nat) (L : List (Nat × Nat)) : List (List Nat) := (List.range n).map (nb cons L)
theorem nbs_length (cons : Bool) (n : Nat) (L : List (Nat × Nat)) : (nbs cons n L).length = n := by simp [nbs]
theorem nbs_get (cons : Bool) {n v : Nat} (L : List (Nat × Nat)) (h : v < n) : (nbs cons n L)[v]? = some (nb cons L v) := by simp [nbs, h]
theorem nb_snoc (cons : Bool) (L : List (Nat × Nat)) (p : Nat × Nat) (v : Nat) : nb cons (L ++ [p]) v = if (ends cons p).1 = v then nb cons L v ++ [(ends cons p).2] else nb cons L v := by
  by_cases h : (ends cons p).1 = v <;> simp [nb, h]
theorem nbs_snoc (cons : Bool) (n : Nat) (L : List (Nat × Nat)) (p : Nat × Nat) : nbs cons n (L ++ [p]) = (nbs cons n L).set (ends cons p).1 (nb cons L (ends cons p).1 ++ [(ends cons p).2]) := by
  apply List.ext_getElem?
  intro i
  rw [List.getElem?_set]
  by_cases hi : i < n
  · rw [nbs_get cons _ hi, nb_snoc]
    by_cases h : (ends cons p).1 = i
    · simp [h, nbs_length, hi]
    · simp [h, nbs_get cons _ hi]
  · rw [List.getElem?_eq_none (by rw [nbs_length]; omega)]
    split
    · rw [if_neg (by rw [nbs_length]; omega)]
    · rw [List.getElem?_eq_none (by rw [nbs_length]; omega)]
theorem nb_mem {cons : Bool} {L : List (Nat × Nat)} {v u : Nat} : u ∈ nb cons L v ↔ (if cons then (u, v) else (v, u)) ∈ L := by
  cases cons <;> simp [nb, ends]
theorem nb_length_le (cons : Bool) (L : List (Nat × Nat)) (v : Nat) : (nb cons L v).length ≤ L.length := by
  simp [nb]
  exact List.length_filter_le _ _
end Go.Proofs.Ytinengemeppefaa

