/- Where each operation of a sequence without errors stands, and that an order of a graph is respected. -/
import Derived.Test.YtgbkgiglagfciaaSuspP2
import Derived.Test.YtgbkgiglagfciaaGraM3
namespace Go.Proofs.Ytgbkgiglagfciaa

def opKey (o : List Nat) (i : Nat) : Nat := (opAt o i).1 * 16 + (opAt o i).2
def atF (o : List Nat) : Nat → Nat → Nat
  | 0, _ => 0
  | k + 1, x => if x = opKey o k then k else atF o k x
theorem atF_le (o : List Nat) : ∀ (k x : Nat), atF o k x ≤ k
  | 0, _ => Nat.le_refl _
  | k + 1, x => by
    unfold atF
    split
    · omega
    · have := atF_le o k x
      omega
section
variable {o : List Nat} (hn : o.Nodup) (hlt : ∀ v ∈ o, v < o.length) (h16 : o.length ≤ 16)
include hn hlt h16
omit hn hlt h16 in
theorem devAt_get {ph j : Nat} : devAt o ph j = o.getD (if rev ph then o.length - 1 - j else j) 0 := by
  unfold devAt
  cases rev ph <;> simp
omit hn h16 in
theorem getD_lt {j : Nat} (hj : j < o.length) : o.getD j 0 < o.length := by
  rw [List.getD_eq_getElem?_getD, List.getElem?_eq_getElem hj]
  exact hlt _ (List.getElem_mem hj)
omit hlt h16 in
theorem getD_inj {i j : Nat} (hi : i < o.length) (hj : j < o.length) (e : o.getD i 0 = o.getD j 0) : i = j := by
  rw [List.getD_eq_getElem?_getD, List.getD_eq_getElem?_getD, List.getElem?_eq_getElem hi, List.getElem?_eq_getElem hj] at e
  exact (List.getElem_inj hn).1 e
omit hn hlt h16 in
theorem opKey_of {a b : Nat} (hb : b < o.length) : opKey o (a * o.length + b) = (a + 1) * 16 + o.getD (if rev (a + 1) then o.length - 1 - b else b) 0 := by
  unfold opKey
  rw [opAt_of hb]
  simp only
  rw [devAt_get]
theorem opKey_inj {i k : Nat} (hk : k < 8 * o.length) (hi : i < 8 * o.length) (e : opKey o i = opKey o k) : i = k := by
  have h0 : 0 < o.length := by omega
  have si := Nat.div_add_mod i o.length
  have sk := Nat.div_add_mod k o.length
  have bi := Nat.mod_lt i h0
  have bk := Nat.mod_lt k h0
  rw [Nat.mul_comm] at si sk
  generalize i / o.length = a at si
  generalize i % o.length = b at si bi
  generalize k / o.length = c at sk
  generalize k % o.length = d at sk bk
  rw [← si, ← sk, opKey_of bi, opKey_of bk] at e
  have p1 : (if rev (a + 1) then o.length - 1 - b else b) < o.length := by split <;> omega
  have p2 : (if rev (c + 1) then o.length - 1 - d else d) < o.length := by split <;> omega
  have q1 := getD_lt hlt p1
  have q2 := getD_lt hlt p2
  have hac : a = c := by omega
  subst hac
  have hd := getD_inj hn p1 p2 (by omega)
  have hbd : b = d := by
    split at hd <;> omega
  rw [← si, ← sk, hbd]
theorem atF_key {i : Nat} : ∀ k, k ≤ 8 * o.length → i < k → atF o k (opKey o i) = i
  | 0, _, h => by omega
  | k + 1, hk, hi => by
    unfold atF
    by_cases e : opKey o i = opKey o k
    · rw [if_pos e]
      exact (opKey_inj hn hlt h16 (by omega) (by omega) e).symm
    · rw [if_neg e]
      have : i ≠ k := fun h => e (by rw [h])
      exact atF_key k (by omega) (by omega)
theorem atF_fwd {p j : Nat} (h5 : 5 ≤ p) (h7 : p ≤ 7) (hj : j < o.length) : atF o (8 * o.length) (p * 16 + o.getD j 0) = (p - 1) * o.length + j := by
  have hm : (p - 1) * o.length + j < 8 * o.length := by
    have : (p - 1) * o.length ≤ 6 * o.length := Nat.mul_le_mul_right _ (by omega)
    omega
  have h := atF_key hn hlt h16 (i := (p - 1) * o.length + j) (8 * o.length) (Nat.le_refl _) hm
  rw [opKey_of hj, show p - 1 + 1 = p by omega] at h
  have hr : rev p = false := by
    have : p = 5 ∨ p = 6 ∨ p = 7 := by omega
    rcases this with rfl | rfl | rfl <;> rfl
  rw [hr] at h
  simpa using h
theorem atF_bwd {p j : Nat} (h2 : 2 ≤ p) (h4 : p ≤ 4) (hj : j < o.length) : atF o (8 * o.length) (p * 16 + o.getD j 0) = (p - 1) * o.length + (o.length - 1 - j) := by
  have hj' : o.length - 1 - j < o.length := by omega
  have hm : (p - 1) * o.length + (o.length - 1 - j) < 8 * o.length := by
    have : (p - 1) * o.length ≤ 6 * o.length := Nat.mul_le_mul_right _ (by omega)
    omega
  have h := atF_key hn hlt h16 (i := (p - 1) * o.length + (o.length - 1 - j)) (8 * o.length) (Nat.le_refl _) hm
  rw [opKey_of hj', show p - 1 + 1 = p by omega] at h
  have hr : rev p = true := by
    have : p = 2 ∨ p = 3 ∨ p = 4 := by omega
    rcases this with rfl | rfl | rfl <;> rfl
  rw [hr] at h
  simp only [if_true] at h
  rw [show o.length - 1 - (o.length - 1 - j) = j by omega] at h
  exact h
/-- A consumer goes to sleep before its suppliers, and wakes behind them. -/
theorem respects {L : List (Nat × Nat)} (hsup : ∀ (i : Nat) (v : Nat), o[i]? = some v → ∀ q ∈ L, q.1 = v → q.2 ∈ o.take i) {c s : Nat} (hcs : (c, s) ∈ L) (hc : c ∈ o) {p : Nat} (h2 : 2 ≤ p) (h4 : p ≤ 4) :
    atF o (8 * o.length) (p * 16 + c) ≤ atF o (8 * o.length) (p * 16 + s) ∧ atF o (8 * o.length) ((9 - p) * 16 + s) ≤ atF o (8 * o.length) ((9 - p) * 16 + c) := by
  obtain ⟨j, hj⟩ := List.mem_iff_getElem?.1 hc
  have hs := hsup j c hj _ hcs rfl
  obtain ⟨i, hi⟩ := List.mem_iff_getElem?.1 hs
  rw [List.getElem?_take] at hi
  split at hi
  · rename_i hij
    have hjl := (List.getElem?_eq_some_iff.1 hj).1
    have hil := (List.getElem?_eq_some_iff.1 hi).1
    have ec : c = o.getD j 0 := by rw [List.getD_eq_getElem?_getD, hj]; rfl
    have es : s = o.getD i 0 := by
      have hi' : o[i]? = some s := hi
      rw [List.getD_eq_getElem?_getD, hi']; rfl
    rw [ec, es, atF_bwd hn hlt h16 h2 h4 hjl, atF_bwd hn hlt h16 h2 h4 hil, atF_fwd hn hlt h16 (by omega) (by omega) hjl, atF_fwd hn hlt h16 (by omega) (by omega) hil]
    omega
  · cases hi
end
end Go.Proofs.Ytgbkgiglagfciaa
