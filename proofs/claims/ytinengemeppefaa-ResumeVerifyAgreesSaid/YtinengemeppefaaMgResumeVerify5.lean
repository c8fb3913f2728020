/- The plain model of Verify. -/
import Derived.Test.YtinengemeppefaaSchW5Mg
import Derived.Test.YtinengemeppefaaBase
import Derived.Test.YtinengemeppefaaProg
namespace Go.Proofs.Ytinengemeppefaa
open Go.RowKit

/-- A slot as it came in. -/
structure RSl where
  d : Int
  w : Int
  s : Nat
  e : Nat
deriving DecidableEq
def rcell (x : RSl) : List Value := [.int .i64 x.d, .int .i64 x.w, uv x.s, uv x.e]
def rcells (l : List RSl) : List Value := l.flatMap rcell
theorem rcell_len (x : RSl) : (rcell x).length = 4 := rfl
def toR (x : Slt) : RSl := ⟨x.d, x.w, x.s, x.e⟩
theorem rcells_toR (l : List Slt) : rcells (l.map toR) = scells l := by
  unfold rcells scells
  rw [List.flatMap_map]
  rfl
theorem Row.slot {w : World} {A : Option Addr} {l : List RSl} (hr : Row w A (rcells l)) {i : Nat} {x : RSl} (h : l[i]? = some x) :
    ∃ ob oo, A = some ⟨ob, oo, none⟩ ∧ w.cell? ⟨ob, oo + i * 4, none⟩ = some (.int .i64 x.d) ∧ w.cell? ⟨ob, oo + i * 4 + 1, none⟩ = some (.int .i64 x.w) ∧ w.cell? ⟨ob, oo + i * 4 + 2, none⟩ = some (.int .u64 (x.s : Int)) ∧ w.cell? ⟨ob, oo + i * 4 + 3, none⟩ = some (.int .u64 (x.e : Int)) := by
  obtain ⟨ob, oo, e, hc⟩ := Row.el rcell_len (by omega) hr h
  exact ⟨ob, oo, e, hc 0 _ rfl, hc 1 _ rfl, hc 2 _ rfl, hc 3 _ rfl⟩
/-- The numbers fit into uint64. -/
def RFits (x : RSl) : Prop := x.s ≤ 18446744073709551615 ∧ x.e ≤ 18446744073709551615

def OkSlot (N W : Nat) (D : Nat → Nat) (x : RSl) : Prop := 0 ≤ x.d ∧ x.d < (N : Int) ∧ 0 ≤ x.w ∧ x.w < (W : Int) ∧ x.e = x.s + D x.d.toNat
instance (N W : Nat) (D : Nat → Nat) (x : RSl) : Decidable (OkSlot N W D x) := by unfold OkSlot; infer_instance
def Shaped (N W : Nat) (D : Nat → Nat) (sl : List RSl) : Prop := sl.length = N ∧ (∀ x ∈ sl, OkSlot N W D x) ∧ (sl.map RSl.d).Nodup
instance (N W : Nat) (D : Nat → Nat) (sl : List RSl) : Decidable (Shaped N W D sl) := by unfold Shaped; infer_instance
def Clash (x y : RSl) : Prop := x.w = y.w ∧ x.s < y.e ∧ y.s < x.e
instance (x y : RSl) : Decidable (Clash x y) := by unfold Clash; infer_instance
def NoClash (sl : List RSl) : Prop := sl.Pairwise fun y x => ¬ Clash x y
instance (sl : List RSl) : Decidable (NoClash sl) := by unfold NoClash; infer_instance
def DepOk (sl : List RSl) (q : Int × Int) : Prop := ∀ x ∈ sl, ∀ y ∈ sl, x.d = q.1 → y.d = q.2 → y.e ≤ x.s
instance (sl : List RSl) (q : Int × Int) : Decidable (DepOk sl q) := by unfold DepOk; infer_instance
def verM (n : Int) (l : List (Int × Int)) (dur : List Nat) (W : Int) (sl : List RSl) : Int :=
  if chkM n l dur W = 0 then (if Shaped n.toNat W.toNat (durF dur) sl then (if NoClash sl then (if ∀ q ∈ l, DepOk sl q then 0 else 9) else 17) else 1) else chkM n l dur W
section
variable {N W : Nat} {l : List (Int × Int)} {dur : List Nat} {sl : List RSl}
theorem verM_bad {n W : Int} (h : ¬ chkM n l dur W = 0) : verM n l dur W sl = chkM n l dur W := by simp [verM, h]
theorem verM_shape (h : chkM N l dur W = 0) (k : ¬ Shaped N W (durF dur) sl) : verM N l dur W sl = 1 := by simp [verM, h, k]
theorem verM_clash (h : chkM N l dur W = 0) (k : Shaped N W (durF dur) sl) (k2 : ¬ NoClash sl) : verM N l dur W sl = 17 := by simp [verM, h, k, k2]
theorem verM_dep (h : chkM N l dur W = 0) (k : Shaped N W (durF dur) sl) (k2 : NoClash sl) (k3 : ¬ ∀ q ∈ l, DepOk sl q) : verM N l dur W sl = 9 := by
  unfold verM
  rw [if_pos h, if_pos (by simpa using k), if_pos k2, if_neg k3]
theorem verM_ok (h : chkM N l dur W = 0) (k : Shaped N W (durF dur) sl) (k2 : NoClash sl) (k3 : ∀ q ∈ l, DepOk sl q) : verM N l dur W sl = 0 := by
  unfold verM
  rw [if_pos h, if_pos (by simpa using k), if_pos k2, if_pos k3]
end
/-- Where a device's slot is, or -1. -/
def posOf (l : List RSl) (d : Nat) : Int := optI (l.findIdx? fun x => x.d == (d : Int))
theorem posOf_snoc {l : List RSl} {x : RSl} (h : ∀ y ∈ l, y.d ≠ x.d) (d : Nat) : posOf (l ++ [x]) d = if (d : Int) = x.d then (l.length : Int) else posOf l d := by
  unfold posOf
  rw [List.findIdx?_append]
  by_cases e : (d : Int) = x.d
  · rw [if_pos e]
    have hn : (l.findIdx? fun y => y.d == (d : Int)) = none := by
      rw [List.findIdx?_eq_none_iff]
      intro y hy
      have := h y hy
      simp
      omega
    rw [hn]
    simp [e, List.findIdx?_cons, optI]
  · rw [if_neg e]
    have : ¬ x.d = (d : Int) := fun h' => e h'.symm
    cases (l.findIdx? fun y => y.d == (d : Int)) <;> simp [List.findIdx?_cons, this]
theorem posOf_nil (d : Nat) : posOf [] d = -1 := rfl
theorem posOf_neg {l : List RSl} {d : Nat} : ¬ 0 ≤ posOf l d ↔ ∀ y ∈ l, y.d ≠ (d : Int) := by
  unfold posOf
  cases h : l.findIdx? fun x => x.d == (d : Int) with
  | none =>
    rw [List.findIdx?_eq_none_iff] at h
    simp only [optI]
    refine ⟨fun _ y hy e => ?_, fun _ => by omega⟩
    have := h y hy
    simp [e] at this
  | some i =>
    rw [List.findIdx?_eq_some_iff_getElem] at h
    obtain ⟨hi, h1, _⟩ := h
    simp only [optI]
    refine ⟨fun h2 => absurd (by omega) h2, fun h2 => ?_⟩
    exact absurd (by simpa using h1) (h2 _ (List.getElem_mem hi))
theorem posOf_mem {l : List RSl} {d : Nat} {y : RSl} (hy : y ∈ l) (e : y.d = (d : Int)) : ∃ (i : Nat) (x : RSl), posOf l d = (i : Int) ∧ l[i]? = some x ∧ x.d = (d : Int) := by
  unfold posOf
  cases h : l.findIdx? fun x => x.d == (d : Int) with
  | none =>
    rw [List.findIdx?_eq_none_iff] at h
    have := h y hy
    simp [e] at this
  | some i =>
    rw [List.findIdx?_eq_some_iff_getElem] at h
    obtain ⟨hi, h1, _⟩ := h
    exact ⟨i, l[i], rfl, List.getElem?_eq_getElem hi, by simpa using h1⟩
theorem RSl.uniq {sl : List RSl} (hn : (sl.map RSl.d).Nodup) {x y : RSl} (hx : x ∈ sl) (hy : y ∈ sl) (e : x.d = y.d) : x = y := by
  obtain ⟨i, hi⟩ := List.getElem?_of_mem hx
  obtain ⟨j, hj⟩ := List.getElem?_of_mem hy
  obtain ⟨hil, hi'⟩ := List.getElem?_eq_some_iff.1 hi
  obtain ⟨hjl, hj'⟩ := List.getElem?_eq_some_iff.1 hj
  have : i = j := by
    apply (List.getElem_inj (h₀ := by simpa using hil) (h₁ := by simpa using hjl) hn).1
    simp only [List.getElem_map]
    rw [hi', hj', e]
  subst this
  rw [← hi', ← hj']
theorem Shaped.mem {N W : Nat} {D : Nat → Nat} {sl : List RSl} (h : Shaped N W D sl) {d : Nat} (hd : d < N) : ∃ y ∈ sl, y.d = (d : Int) := by
  have := mem_of_full (n := N) (o := (sl.map RSl.d).map Int.toNat) (fun v hv => by
    obtain ⟨z, hz, rfl⟩ := List.mem_map.1 hv
    obtain ⟨y, hy, rfl⟩ := List.mem_map.1 hz
    have := h.2.1 y hy
    unfold OkSlot at this
    omega) (by
    unfold List.Nodup
    rw [List.pairwise_map]
    refine List.Pairwise.imp_of_mem (fun {a b} ha hb hne e => ?_) h.2.2
    obtain ⟨y, hy, rfl⟩ := List.mem_map.1 ha
    obtain ⟨z, hz, rfl⟩ := List.mem_map.1 hb
    have h1 := h.2.1 y hy
    have h2 := h.2.1 z hz
    unfold OkSlot at h1 h2
    omega) (by simpa using h.1) hd
  obtain ⟨z, hz, e⟩ := List.mem_map.1 this
  obtain ⟨y, hy, rfl⟩ := List.mem_map.1 hz
  have h1 := h.2.1 y hy
  unfold OkSlot at h1
  exact ⟨y, hy, by omega⟩
/-- What the loop over the links compares. -/
theorem depOk_iff {sl : List RSl} (hn : (sl.map RSl.d).Nodup) {q : Int × Int} {x y : RSl} (hx : x ∈ sl) (hy : y ∈ sl) (e1 : x.d = q.1) (e2 : y.d = q.2) : DepOk sl q ↔ ¬ x.s < y.e := by
  constructor
  · intro h
    have := h x hx y hy e1 e2
    omega
  · intro h x' hx' y' hy' e1' e2'
    rw [RSl.uniq hn hx' hx (e1'.trans e1.symm), RSl.uniq hn hy' hy (e2'.trans e2.symm)]
    omega
end Go.Proofs.Ytinengemeppefaa

/- help.Mod, walked. -/
namespace Go.Proofs.Ytinengemeppefaa
open Go.RowKit

def umod (v : Int) (n : Nat) : Nat := ((IntKind.u64.wrap v).toNat) % n
theorem umod_lt (v : Int) {n : Nat} (h : 0 < n) : umod v n < n := Nat.mod_lt _ h
theorem wrap_u64 (v : Int) : IntKind.u64.wrap v = v % 18446744073709551616 := by simp [IntKind.wrap, IntKind.signed, IntKind.bits]

set_option maxHeartbeats 400000 in
theorem mod_any (v : Int) (n : Nat) (w : World) (h0 : 0 < n) (h1 : n ≤ 4096) :
    Calls Try.prog 14 #[.int .i64 v, .int .i64 n] w fun e w' => e = .returned (.int .i64 (umod v n)) ∧ w = w' := by
  have hb : (1 : Int) ≤ (n : Int) := by omega
  have hb2 : (n : Int) ≤ 4096 := by omega
  clear h0 h1
  go_enter Try.func14, Try.ntmps14
  go_wp2
  go_ret
  refine ⟨ret_int ?_, rfl⟩
  have hw : 0 ≤ IntKind.u64.wrap v := by rw [wrap_u64]; omega
  have e : (IntKind.u64.wrap v).tmod (n : Int) = ((umod v n : Nat) : Int) := by
    obtain ⟨m, hm⟩ := Int.eq_ofNat_of_zero_le hw
    unfold umod
    rw [hm, Int.toNat_natCast]
    exact (Int.ofNat_tmod m n).symm
  rw [e]
  have := umod_lt v (n := n) (by omega)
  exact IntWalk.wrap64_in _ ⟨by omega, by omega⟩
end Go.Proofs.Ytinengemeppefaa

