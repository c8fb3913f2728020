/- Idle devices and calls in memory. -/
import Derived.Test.YtbnfdpemfmeldaaMgRuntimeNew0
import Derived.Test.YtbnfdpemfmeldaaProg
import Derived.Laws.MakeOwn
import Derived.Test.YtbnfdpemfmeldaaBase
import Derived.OwnWalk
namespace Go.Proofs.Ytbnfdpemfmeldaa
open Go.RowKit

/-- An idle device: parent, the slice of its suppliers, delay; the suppliers. -/
structure ID where
  par : Int
  sv : Value
  dl : Nat
  sup : List Int
def idc (x : ID) : List Value := [.int .i64 x.par, x.sv, .int .u64 (x.dl : Int)]
theorem idc_len (x : ID) : (idc x).length = 3 := rfl
def idcs (l : List ID) : List Value := l.flatMap idc
theorem idcs_length (l : List ID) : (idcs l).length = l.length * 3 := flat_length idc_len l
theorem idcs_snoc (l : List ID) (x : ID) : idcs (l ++ [x]) = idcs l ++ idc x := by simp [idcs]
def SupAt (w : World) (x : ID) : Prop := ∃ A cp, x.sv = .slice A x.sup.length cp ∧ Row w A (x.sup.map (Value.int .i64))
structure IdWf (w : World) (x : ID) : Prop where
  at_ : SupAt w x
  len : x.sup.length ≤ maxLen
  dl : x.dl ≤ 18446744073709551615
  par : -9223372036854775808 ≤ x.par ∧ x.par ≤ 9223372036854775807
  sup : ∀ q ∈ x.sup, -9223372036854775808 ≤ q ∧ q ≤ 9223372036854775807
/-- The devices lie in a row, their suppliers behind them. -/
def IdsAt (w : World) (A : Option Addr) (l : List ID) : Prop := Row w A (idcs l) ∧ ∀ x ∈ l, SupAt w x
theorem SupAt.fr0 {w w' : World} {x : ID} (h : SupAt w x) (k : Fr [] w w') : SupAt w' x := by
  obtain ⟨A, cp, e, hr⟩ := h
  exact ⟨A, cp, e, hr.fr0 k⟩
theorem IdsAt.fr0 {w w' : World} {A : Option Addr} {l : List ID} (h : IdsAt w A l) (k : Fr [] w w') : IdsAt w' A l := ⟨h.1.fr0 k, fun x hx => (h.2 x hx).fr0 k⟩
theorem IdsAt.el {w : World} {A : Option Addr} {l : List ID} (h : IdsAt w A l) {i : Nat} {x : ID} (hx : l[i]? = some x) :
    ∃ ob oo A' cp, A = some ⟨ob, oo, none⟩ ∧ x.sv = .slice A' x.sup.length cp ∧ w.cell? ⟨ob, oo + i * 3, none⟩ = some (.int .i64 x.par) ∧ w.cell? ⟨ob, oo + i * 3 + 1, none⟩ = some (.slice A' x.sup.length cp) ∧ w.cell? ⟨ob, oo + i * 3 + 2, none⟩ = some (.int .u64 (x.dl : Int)) ∧ Row w A' (x.sup.map (Value.int .i64)) := by
  obtain ⟨ob, oo, e, hc⟩ := Row.el (f := idc) idc_len (by omega) h.1 hx
  obtain ⟨A', cp, e2, hr⟩ := h.2 x (List.mem_of_getElem? hx)
  exact ⟨ob, oo, A', cp, e, e2, hc 0 _ rfl, by rw [← e2]; exact hc 1 _ rfl, hc 2 _ rfl, hr⟩
def zeroID : ID := ⟨0, .slice none 0 0, 0, []⟩
theorem made_id (n : Nat) : madeCells (Value.agg #[.int .i64 0, .slice none 0 0, .int .u64 0]).cells (n * 3) = (idcs (List.replicate n zeroID)).toArray := by
  apply Array.ext_getElem?
  intro i
  have hsz : (idcs (List.replicate n zeroID)).length = n * 3 := by rw [idcs_length, List.length_replicate]
  by_cases hi : i < n * 3
  · have h1 : i / 3 * 3 + i % 3 = i := by omega
    have h2 := flat_get (f := idc) idc_len (l := List.replicate n zeroID) (i := i / 3) (j := i % 3) (a := zeroID) (by rw [List.getElem?_replicate, if_pos (by omega)]) (by omega)
    rw [h1] at h2
    have h3 : (madeCells (Value.agg #[.int .i64 0, .slice none 0 0, .int .u64 0]).cells (n * 3))[i]? = some ((Value.agg #[.int .i64 0, .slice none 0 0, .int .u64 0]).cells[i % 3]!) := by
      unfold madeCells
      rw [Array.getElem?_map, Array.getElem?_eq_getElem (by simpa using hi)]
      simp
      rfl
    rw [h3, List.getElem?_toArray]
    refine Eq.trans ?_ h2.symm
    have hr : i % 3 < 3 := by omega
    generalize i % 3 = r at hr ⊢
    have : r = 0 ∨ r = 1 ∨ r = 2 := by omega
    rcases this with rfl | rfl | rfl <;> rfl
  · rw [Array.getElem?_eq_none (by rw [size_madeCells]; omega), Array.getElem?_eq_none (by rw [List.size_toArray, hsz]; omega)]
theorem idcs_set {B : List ID} {i : Nat} (hi : i < B.length) (d : ID) : (((idcs B).toArray.setIfInBounds (i * 3) (.int .i64 d.par)).setIfInBounds (i * 3 + 1) d.sv).setIfInBounds (i * 3 + 2) (.int .u64 (d.dl : Int)) = (idcs (B.set i d)).toArray := by
  simp only [List.setIfInBounds_toArray]
  congr 1
  apply List.ext_getElem?
  intro t
  have l1 : (idcs B).length = B.length * 3 := idcs_length B
  have l2 : (idcs (B.set i d)).length = B.length * 3 := by rw [idcs_length, List.length_set]
  by_cases ht : t < B.length * 3
  · have hq : t / 3 < B.length := by omega
    have h1 := flat_get (f := idc) idc_len (List.getElem?_eq_getElem hq) (Nat.mod_lt t (show 0 < 3 by omega))
    obtain ⟨E, hE⟩ : ∃ E, (B.set i d)[t / 3]? = some E := ⟨_, List.getElem?_eq_getElem (by rw [List.length_set]; exact hq)⟩
    have h2 := flat_get (f := idc) idc_len hE (Nat.mod_lt t (show 0 < 3 by omega))
    rw [show t / 3 * 3 + t % 3 = t by omega] at h1 h2
    have h1 : (idcs B)[t]? = (idc B[t / 3])[t % 3]? := h1
    have h2 : (idcs (B.set i d))[t]? = (idc E)[t % 3]? := h2
    rw [h2, List.getElem?_set, List.getElem?_set, List.getElem?_set, h1]
    simp only [List.length_set, l1]
    rw [List.getElem?_set] at hE
    have hr : t % 3 = 0 ∨ t % 3 = 1 ∨ t % 3 = 2 := by omega
    by_cases e : t / 3 = i
    · rw [if_pos e.symm, if_pos (by omega)] at hE
      injection hE with hE
      subst hE
      rcases hr with hr | hr | hr
      · rw [if_neg (by omega), if_neg (by omega), if_pos (by omega), if_pos (by omega), hr]; rfl
      · rw [if_neg (by omega), if_pos (by omega), if_pos (by omega), hr]; rfl
      · rw [if_pos (by omega), if_pos (by omega), hr]; rfl
    · rw [if_neg (Ne.symm e), List.getElem?_eq_getElem hq] at hE
      injection hE with hE
      subst hE
      rw [if_neg (by omega), if_neg (by omega), if_neg (by omega)]
  · rw [List.getElem?_eq_none (by simp only [List.length_set, l1]; omega), List.getElem?_eq_none (by rw [l2]; omega)]
/-- A call. -/
structure CL where
  kind : Int
  dev : Int
  wait : Nat
  raw : Bool
def clc (x : CL) : List Value := [.int .i64 x.kind, .int .i64 x.dev, .int .u64 (x.wait : Int), .bool x.raw]
theorem clc_len (x : CL) : (clc x).length = 4 := rfl
def clcs (l : List CL) : List Value := l.flatMap clc
theorem Row.cl {w : World} {A : Option Addr} {l : List CL} (h : Row w A (clcs l)) {i : Nat} {x : CL} (hx : l[i]? = some x) :
    ∃ ob oo, A = some ⟨ob, oo, none⟩ ∧ w.cell? ⟨ob, oo + i * 4, none⟩ = some (.int .i64 x.kind) ∧ w.cell? ⟨ob, oo + i * 4 + 1, none⟩ = some (.int .i64 x.dev) ∧ w.cell? ⟨ob, oo + i * 4 + 2, none⟩ = some (.int .u64 (x.wait : Int)) ∧ w.cell? ⟨ob, oo + i * 4 + 3, none⟩ = some (.bool x.raw) := by
  obtain ⟨ob, oo, e, hc⟩ := Row.el (f := clc) clc_len (by omega) h hx
  exact ⟨ob, oo, e, hc 0 _ rfl, hc 1 _ rfl, hc 2 _ rfl, hc 3 _ rfl⟩
end Go.Proofs.Ytbnfdpemfmeldaa

/- make of a slice whose elements take one cell each. -/
namespace Go.Proofs.Ytbnfdpemfmeldaa
open Go.RowKit

theorem made_repl {z : Value} (hz : z.cells = #[z]) (n : Nat) : madeCells z.cells (n * 1) = Array.replicate n z := by
  rw [hz, Nat.mul_one]
  apply Array.ext
  · simp [size_madeCells]
  · intro i h1 h2
    simp [madeCells, Nat.mod_one]
theorem run_make_one {P : Program} (t e : TypeId) (z : Value) (b : Nat) (ht : P.underlying t = some (.slice e)) (hi : (P.info? e).map (fun i => (i.zero, i.size, i.bytes)) = some (some z, 1, b)) (hzc : z.cells = #[z])
    (n c : Nat) (hnc : n ≤ c) (hb : b ≤ 64) (hc : c ≤ 1000000) (w : World) :
    (Instr.makeSlice t (.int .i64 (n : Int)) (.int .i64 (c : Int))).run P w = .ok (.slice (some ⟨w.heap.size, 0, none⟩) n c) (w.alloc (.cells (Array.replicate c z) e)) := by
  obtain ⟨i, hi, hz, hs, hby⟩ := info_parts hi
  have hbb : i.bytes * c ≤ 64 * 1000000 := by rw [hby]; exact Nat.mul_le_mul hb hc
  have hb' : (i.bytes : Int) * (c : Int) ≤ 281474976710656 := by
    have h : ((i.bytes * c : Nat) : Int) ≤ 281474976710656 := by omega
    rwa [Int.natCast_mul] at h
  have hr := run_make (P := P) w t e i z ht hi hz .i64 .i64 n c (by omega) (by omega) hb' (by omega)
  rw [hr, hs]
  simp only [Int.toNat_natCast]
  rw [← made_repl hzc]
theorem int_info1 : (Try.prog.info? 3).map (fun i => (i.zero, i.size, i.bytes)) = some (some (.int .i64 0), 1, 8) := by kernel_rfl
theorem bool_info1 : (Try.prog.info? 4).map (fun i => (i.zero, i.size, i.bytes)) = some (some (.bool false), 1, 1) := by kernel_rfl
theorem make_ints (n c : Nat) (hnc : n ≤ c) (hc : c ≤ 1000000) (w : World) : (Instr.makeSlice 27 (.int .i64 (n : Int)) (.int .i64 (c : Int))).run Try.prog w = .ok (.slice (some ⟨w.heap.size, 0, none⟩) n c) (w.alloc (.cells (Array.replicate c (.int .i64 0)) 3)) :=
  run_make_one _ _ _ 8 Try.underlying27 int_info1 rfl n c hnc (by omega) hc w
theorem make_ints0 (c : Nat) (hc : c ≤ 1000000) (w : World) : (Instr.makeSlice 27 (.int .i64 0) (.int .i64 (c : Int))).run Try.prog w = .ok (.slice (some ⟨w.heap.size, 0, none⟩) 0 c) (w.alloc (.cells (Array.replicate c (.int .i64 0)) 3)) := make_ints 0 c (Nat.zero_le _) hc w
theorem make_bools (n c : Nat) (hnc : n ≤ c) (hc : c ≤ 1000000) (w : World) : (Instr.makeSlice 52 (.int .i64 (n : Int)) (.int .i64 (c : Int))).run Try.prog w = .ok (.slice (some ⟨w.heap.size, 0, none⟩) n c) (w.alloc (.cells (Array.replicate c (.bool false)) 4)) :=
  run_make_one _ _ _ 1 Try.underlying52 bool_info1 rfl n c hnc (by omega) hc w
end Go.Proofs.Ytbnfdpemfmeldaa

