/- Run-time power management as the manager does it, plain. No program is in sight here. -/
import Derived.Test.YtbnfdpemfmeldaaBase
namespace Go.Proofs.Ytbnfdpemfmeldaa

/-- A function turned at one place. -/
def setF {α : Type} (f : Nat → α) (j : Nat) (v : α) (q : Nat) : α := if q = j then v else f q
theorem setF_self {α : Type} (f : Nat → α) (j : Nat) (v : α) : setF f j v j = v := if_pos rfl
theorem setF_ne {α : Type} (f : Nat → α) {j q : Nat} (v : α) (h : q ≠ j) : setF f j v q = f q := if_neg h
/-- What does not change: the number of devices, the links (consumer, supplier), the delays, the order. -/
structure RM where
  n : Nat
  L : List (Nat × Nat)
  dl : Nat → Nat
  ord : List Nat
/-- What changes: which devices are active, the use counts, the idle times, the clock. -/
structure RS where
  act : Nat → Bool
  use : Nat → Nat
  sin : Nat → Nat
  clk : Nat
structure POp where
  dev : Nat
  res : Bool
  tm : Nat
deriving DecidableEq
def supL (L : List (Nat × Nat)) (i : Nat) : List Nat := (L.filter (fun p => p.1 == i)).map (·.2)
def conL (L : List (Nat × Nat)) (i : Nat) : List Nat := (L.filter (fun p => p.2 == i)).map (·.1)
theorem mem_supL {L : List (Nat × Nat)} {i x : Nat} : x ∈ supL L i ↔ (i, x) ∈ L := by
  unfold supL
  simp only [List.mem_map, List.mem_filter, beq_iff_eq]
  constructor
  · rintro ⟨⟨a, b⟩, ⟨h1, h2⟩, h3⟩
    simp at h2 h3
    subst h2 h3
    exact h1
  · exact fun h => ⟨(i, x), ⟨h, rfl⟩, rfl⟩
theorem mem_conL {L : List (Nat × Nat)} {i x : Nat} : x ∈ conL L i ↔ (x, i) ∈ L := by
  unfold conL
  simp only [List.mem_map, List.mem_filter, beq_iff_eq]
  constructor
  · rintro ⟨⟨a, b⟩, ⟨h1, h2⟩, h3⟩
    simp at h2 h3
    subst h2 h3
    exact h1
  · exact fun h => ⟨(x, i), ⟨h, rfl⟩, rfl⟩
section
variable (M : RM)
def idl (s : RS) (i : Nat) : Bool := s.act i && (s.use i == 0 && (conL M.L i).all fun c => !s.act c)
def exy (s : RS) (i : Nat) : Nat := s.sin i + M.dl i
def fstStep (s : RS) (b : Option Nat) (i : Nat) : Option Nat := if idl M s i = true ∧ (∀ j, b = some j → exy M s i < exy M s j) then some i else b
def fstTo (s : RS) : Nat → Option Nat
  | 0 => none
  | k + 1 => fstStep M s (fstTo s k) k
def fstM (s : RS) : Option Nat := fstTo M s M.n
def markS (t : Nat) (s : RS) (x : Nat) : RS := if idl M s x = true then { s with sin := setF s.sin x t } else s
def offS (s : RS) (d : Nat) : RS := (supL M.L d).foldl (markS M (exy M s d)) { s with act := setF s.act d false }
def expK (lim : Nat) : Nat → RS → List POp → RS × List POp
  | 0, s, ops => (s, ops)
  | k + 1, s, ops =>
    match fstM M s with
    | none => (s, ops)
    | some d => if lim < exy M s d then (s, ops) else expK lim k (offS M s d) (ops ++ [⟨d, false, exy M s d⟩])
def expM (lim : Nat) (s : RS) (ops : List POp) : RS × List POp := expK M lim (M.n + 1) s ops
def reqStep (r : Nat → Bool) (i : Nat) : Nat → Bool := if r i = true then (supL M.L i).foldl (fun r x => setF r x true) r else r
def reqM (d : Nat) : Nat → Bool := M.ord.reverse.foldl (reqStep M) (setF (fun _ => false) d true)
def onStep (r : Nat → Bool) (now : Nat) (p : RS × List POp) (i : Nat) : RS × List POp := if r i = true ∧ p.1.act i = false then ({ p.1 with act := setF p.1.act i true }, p.2 ++ [⟨i, true, now⟩]) else p
def useS (s : RS) (d u : Nat) : RS := { s with use := setF s.use d u }
def getM (s : RS) (d now : Nat) : RS × List POp :=
  let e := expM M now { s with clk := now } []
  M.ord.foldl (onStep (reqM M d) now) (useS e.1 d (e.1.use d + 1), e.2)
def idleS (s : RS) (d now : Nat) : RS := if idl M s d = true then { s with sin := setF s.sin d now } else s
def putM (s : RS) (d now : Nat) : RS × List POp :=
  let e := expM M now { s with clk := now } []
  expM M now (idleS M (useS e.1 d (e.1.use d - 1)) d now) e.2
def advM (s : RS) (now : Nat) : RS × List POp := expM M now { s with clk := now } []
def nAct (s : RS) : Nat := ((List.range M.n).filter s.act).length
end
section
variable {M : RM} {s : RS}
theorem fstTo_some {k d : Nat} (h : fstTo M s k = some d) : d < k ∧ idl M s d = true ∧ (∀ i, i < k → idl M s i = true → exy M s d ≤ exy M s i) := by
  induction k generalizing d with
  | zero => cases h
  | succ k ih =>
    unfold fstTo fstStep at h
    split at h
    · rename_i hc
      injection h with h
      subst h
      refine ⟨by omega, hc.1, fun i hi hid => ?_⟩
      by_cases e : i = k
      · subst e; exact Nat.le_refl _
      · cases hf : fstTo M s k with
        | none =>
          exfalso
          have : ∀ q, fstTo M s q = none → ∀ i, i < q → idl M s i = false := by
            intro q
            induction q with
            | zero => intro _ i hi; omega
            | succ q ihq =>
              intro hq i hi
              unfold fstTo fstStep at hq
              split at hq
              · cases hq
              · rename_i hn
                by_cases e2 : i = q
                · subst e2
                  cases hx : idl M s i with
                  | false => rfl
                  | true => exact absurd ⟨hx, fun j hj => by rw [hq] at hj; cases hj⟩ hn
                · exact ihq hq i (by omega)
          rw [this k hf i (by omega)] at hid
          cases hid
        | some j =>
          have h1 := hc.2 j hf
          have h2 := (ih hf).2.2 i (by omega) hid
          omega
    · rename_i hc
      obtain ⟨h1, h2, h3⟩ := ih h
      refine ⟨by omega, h2, fun i hi hid => ?_⟩
      by_cases e : i = k
      · subst e
        apply Nat.le_of_not_lt
        intro hl
        exact hc ⟨hid, fun j hj => by rw [h] at hj; injection hj with hj; subst hj; exact hl⟩
      · exact h3 i (by omega) hid
theorem fstTo_none {k : Nat} (h : fstTo M s k = none) : ∀ i, i < k → idl M s i = false := by
  induction k with
  | zero => intro i hi; omega
  | succ k ih =>
    intro i hi
    unfold fstTo fstStep at h
    split at h
    · cases h
    · rename_i hn
      by_cases e : i = k
      · subst e
        cases hx : idl M s i with
        | false => rfl
        | true => exact absurd ⟨hx, fun j hj => by rw [h] at hj; cases hj⟩ hn
      · exact ih h i (by omega)
theorem idl_act {i : Nat} (h : idl M s i = true) : s.act i = true := by
  unfold idl at h
  simp at h
  exact h.1
theorem markS_act (t : Nat) (x : Nat) : (markS M t s x).act = s.act ∧ (markS M t s x).use = s.use ∧ (markS M t s x).clk = s.clk := by
  unfold markS
  split <;> exact ⟨rfl, rfl, rfl⟩
theorem marks_act (t : Nat) (l : List Nat) (s : RS) : (l.foldl (markS M t) s).act = s.act ∧ (l.foldl (markS M t) s).use = s.use ∧ (l.foldl (markS M t) s).clk = s.clk := by
  induction l generalizing s with
  | nil => exact ⟨rfl, rfl, rfl⟩
  | cons a l ih =>
    obtain ⟨h1, h2, h3⟩ := ih (markS M t s a)
    obtain ⟨g1, g2, g3⟩ := markS_act (M := M) (s := s) t a
    exact ⟨h1.trans g1, h2.trans g2, h3.trans g3⟩
theorem offS_act (d : Nat) : (offS M s d).act = setF s.act d false ∧ (offS M s d).use = s.use ∧ (offS M s d).clk = s.clk := marks_act _ _ _
theorem nAct_off {d : Nat} (hd : d < M.n) (h : s.act d = true) : nAct M (offS M s d) < nAct M s := by
  unfold nAct
  rw [(offS_act d).1]
  have hsub : (List.range M.n).filter (setF s.act d false) = ((List.range M.n).filter s.act).filter (fun i => !(i == d)) := by
    rw [List.filter_filter]
    apply List.filter_congr
    intro i _
    unfold setF
    by_cases e : i = d
    · simp [e]
    · simp [e]
  rw [hsub]
  apply List.length_filter_lt_length_iff_exists.2
  exact ⟨d, List.mem_filter.2 ⟨List.mem_range.2 hd, h⟩, by simp⟩
theorem expK_use (lim : Nat) : ∀ (k : Nat) (s : RS) (ops : List POp), (expK M lim k s ops).1.use = s.use ∧ (expK M lim k s ops).1.clk = s.clk
  | 0, s, ops => ⟨rfl, rfl⟩
  | k + 1, s, ops => by
    unfold expK
    split
    · exact ⟨rfl, rfl⟩
    · rename_i d _
      split
      · exact ⟨rfl, rfl⟩
      · obtain ⟨h1, h2⟩ := expK_use lim k (offS M s d) (ops ++ [⟨d, false, exy M s d⟩])
        exact ⟨h1.trans (offS_act d).2.1, h2.trans (offS_act d).2.2⟩
theorem expK_len (lim : Nat) : ∀ (k : Nat) (s : RS) (ops : List POp), (expK M lim k s ops).2.length ≤ ops.length + nAct M s
  | 0, s, ops => by unfold expK; exact Nat.le_add_right _ _
  | k + 1, s, ops => by
    unfold expK
    split
    · exact Nat.le_add_right _ _
    · rename_i d hd
      split
      · exact Nat.le_add_right _ _
      · have h := expK_len lim k (offS M s d) (ops ++ [⟨d, false, exy M s d⟩])
        obtain ⟨h1, h2, -⟩ := fstTo_some hd
        have h3 := nAct_off h1 (idl_act h2)
        rw [List.length_append, List.length_singleton] at h
        omega
theorem nAct_le (M : RM) (s : RS) : nAct M s ≤ M.n := by
  unfold nAct
  exact Nat.le_trans (List.length_filter_le _ _) (by simp)
end
end Go.Proofs.Ytbnfdpemfmeldaa

/- Rows of structs: each element takes m cells. No program is in sight here. -/
namespace Go.Proofs.Ytbnfdpemfmeldaa
open Go.RowKit
section
variable {α : Type} {f : α → List Value} {m : Nat}
theorem flat_length (hf : ∀ a, (f a).length = m) (l : List α) : (l.flatMap f).length = l.length * m := by
  induction l with
  | nil => simp
  | cons a l ih => simp [ih, hf, Nat.add_mul]; omega
theorem flat_get (hf : ∀ a, (f a).length = m) {l : List α} {i j : Nat} {a : α} (h : l[i]? = some a) (hj : j < m) : (l.flatMap f)[i * m + j]? = (f a)[j]? := by
  induction l generalizing i with
  | nil => simp at h
  | cons b l ih =>
    cases i with
    | zero =>
      simp at h
      subst h
      rw [List.flatMap_cons, List.getElem?_append_left (by rw [hf]; omega)]
      simp
    | succ i =>
      rw [List.flatMap_cons, List.getElem?_append_right (by rw [hf, Nat.add_mul]; omega), hf, Nat.add_mul, Nat.one_mul, show i * m + m + j - m = i * m + j by omega]
      exact ih (by simpa using h)
theorem Row.el {w : World} {A : Option Addr} {l : List α} (hf : ∀ a, (f a).length = m) (hm : 0 < m) (hr : Row w A (l.flatMap f)) {i : Nat} {a : α} (h : l[i]? = some a) :
    ∃ ob oo, A = some ⟨ob, oo, none⟩ ∧ ∀ j u, (f a)[j]? = some u → w.cell? ⟨ob, oo + i * m + j, none⟩ = some u := by
  have hl : 0 < (l.flatMap f).length := by
    rw [flat_length hf]
    have := (List.getElem?_eq_some_iff.1 h).1
    exact Nat.mul_pos (by omega) hm
  obtain ⟨ob, oo, e, hc⟩ := hr hl
  refine ⟨ob, oo, e, fun j u hu => ?_⟩
  have hj : j < m := by
    have := (List.getElem?_eq_some_iff.1 hu).1
    rwa [hf] at this
  rw [Nat.add_assoc]
  exact hc _ _ ((flat_get hf h hj).trans hu)
end

/-- The cells of a link. -/
def pc (p : Int × Int) : List Value := [.int .i64 p.1, .int .i64 p.2]
theorem pc_len (p : Int × Int) : (pc p).length = 2 := rfl
def pcs (l : List (Int × Int)) : List Value := l.flatMap pc
theorem pcs_length (l : List (Int × Int)) : (pcs l).length = l.length * 2 := flat_length pc_len l
theorem pcs_snoc (l : List (Int × Int)) (p : Int × Int) : pcs (l ++ [p]) = pcs l ++ [.int .i64 p.1, .int .i64 p.2] := by simp [pcs, pc]
theorem Row.link {w : World} {A : Option Addr} {l : List (Int × Int)} (hr : Row w A (pcs l)) {i : Nat} {p : Int × Int} (h : l[i]? = some p) :
    ∃ ob oo, A = some ⟨ob, oo, none⟩ ∧ w.cell? ⟨ob, oo + i * 2, none⟩ = some (.int .i64 p.1) ∧ w.cell? ⟨ob, oo + i * 2 + 1, none⟩ = some (.int .i64 p.2) := by
  obtain ⟨ob, oo, e, hc⟩ := Row.el pc_len (by omega) hr h
  exact ⟨ob, oo, e, hc 0 _ rfl, hc 1 _ rfl⟩
theorem Row.int {w : World} {A : Option Addr} {l : List Int} (hr : Row w A (l.map (Value.int .i64))) {i : Nat} {x : Int} (h : l[i]? = some x) :
    ∃ ob oo, A = some ⟨ob, oo, none⟩ ∧ w.cell? ⟨ob, oo + i, none⟩ = some (.int .i64 x) := hr.at_ (by rw [List.getElem?_map, h]; rfl)
end Go.Proofs.Ytbnfdpemfmeldaa

