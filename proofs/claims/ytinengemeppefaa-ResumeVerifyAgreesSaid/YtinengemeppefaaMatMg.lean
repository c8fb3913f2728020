/- A square matrix of bools that the call itself makes: a block of rows' slices, a block a row. -/
import Derived.Test.YtinengemeppefaaMgResumeVerify2
import Derived.Test.YtinengemeppefaaMgResumeVerify1
namespace Go.Proofs.Ytinengemeppefaa
open Go.RowKit

abbrev rowv (n : Nat) (k : Nat) : Value := .slice (some ⟨k, 0, none⟩) n n
structure MatIn (w : World) (base g n : Nat) (f : Nat → Nat → Bool) (r : Nat → Nat) : Prop where
  hdr : FA w g 60 id n (fun i => rowv n (r i))
  rows : ∀ i, i < n → FA w (r i) 4 bv n (f i)
  low : base ≤ g ∧ ∀ i, i < n → base ≤ r i
  inj : ∀ i j, i < n → j < n → r i = r j → i = j
def MatAt (w : World) (base g n : Nat) (f : Nat → Nat → Bool) : Prop := ∃ r, MatIn w base g n f r
/-- The rows below k are made. -/
def MatTo (w : World) (base g n k : Nat) : Prop :=
  ∃ r : Nat → Nat, FA w g 60 id n (fun i => if i < k then rowv n (r i) else .slice none 0 0) ∧ (∀ i, i < k → FA w (r i) 4 bv n (fun _ => false)) ∧ (base ≤ g ∧ ∀ i, i < k → base ≤ r i) ∧ (∀ i j, i < k → j < k → r i = r j → i = j)

section
variable {w w' : World} {base g n : Nat} {f f' : Nat → Nat → Bool}
theorem MatAt.fr0 (h : MatAt w base g n f) (k : Fr [] w w') : MatAt w' base g n f := by
  obtain ⟨r, h⟩ := h
  exact ⟨r, h.hdr.fr0 k, fun i hi => (h.rows i hi).fr0 k, h.low, h.inj⟩
theorem MatAt.congr (h : MatAt w base g n f) (hf : ∀ i j, i < n → j < n → f i j = f' i j) : MatAt w base g n f' := by
  obtain ⟨r, h⟩ := h
  exact ⟨r, h.hdr, fun i hi => (h.rows i hi).congr (fun j hj => hf i j hi hj), h.low, h.inj⟩
theorem MatAt.at_ (h : MatAt w base g n f) {i : Nat} (hi : i < n) : ∃ b, w.cell? ⟨g, i, none⟩ = some (.slice (some ⟨b, 0, none⟩) n n) ∧ (∀ j, j < n → w.cell? ⟨b, j, none⟩ = some (.bool (f i j))) ∧ (∀ j, w.frozen? ⟨b, j, none⟩ = false) ∧ base ≤ b ∧ b < w.heap.size ∧ b ≠ g ∧
    (∀ j x, MatAt (w.setCell ⟨b, j, none⟩ (.bool x)) base g n (fun a c => if a = i ∧ c = j then x else f a c)) := by
  obtain ⟨r, h⟩ := h
  have hg : r i ≠ g := fun e => Arr.ne (h.rows i hi) h.hdr (by decide) e
  refine ⟨r i, h.hdr.cell hi, fun j hj => (h.rows i hi).cell hj, (h.rows i hi).frozen, h.low.2 i hi, (h.rows i hi).lt, hg, fun j x => ⟨r, h.hdr.far (fun e => hg e.symm) _, fun a ha => ?_, h.low, h.inj⟩⟩
  by_cases e : a = i
  · subst e
    refine ((h.rows a ha).set_ j x).congr (fun c _ => ?_)
    by_cases e2 : c = j <;> simp [e2]
  · exact ((h.rows a ha).far (fun e2 => e (h.inj a i ha hi e2)) _).congr (fun c _ => by simp [e])
theorem MatTo.full (h : MatTo w base g n n) : MatAt w base g n (fun _ _ => false) := by
  obtain ⟨r, h1, h2, h3, h4⟩ := h
  exact ⟨r, h1.congr (fun i hi => by simp [hi]), h2, h3, h4⟩
theorem MatTo.nil (w : World) (n : Nat) (hb : base ≤ w.heap.size) : MatTo (w.alloc (.cells (Array.replicate n (.slice none 0 0)) 60)) base w.heap.size n 0 := by
  refine ⟨fun _ => 0, ?_, fun i hi => by omega, ⟨hb, fun i hi => by omega⟩, fun i j hi => by omega⟩
  have := FA.new w 60 (id : Value → Value) (.slice none 0 0) n
  exact this.congr (fun i _ => by simp)
theorem MatTo.step {k : Nat} (h : MatTo w base g n k) (hk : k < n) (hb : base ≤ w.heap.size) :
    (w.alloc (.cells (Array.replicate n (.bool false)) 4)).cell? ⟨g, k, none⟩ = some (.slice none 0 0) ∧ (w.alloc (.cells (Array.replicate n (.bool false)) 4)).frozen? ⟨g, k, none⟩ = false ∧
    MatTo ((w.alloc (.cells (Array.replicate n (.bool false)) 4)).setCell ⟨g, k, none⟩ (.slice (some ⟨w.heap.size, 0, none⟩) n n)) base g n (k + 1) ∧ base ≤ g ∧ g < w.heap.size := by
  obtain ⟨r, h1, h2, h3, h4⟩ := h
  have h1' := h1.fr0 ((Fr.refl [] w).alloc (.cells (Array.replicate n (.bool false)) 4))
  have hgl := h1.lt
  refine ⟨by have := h1'.cell hk; simpa using this, h1'.frozen k, ⟨fun i => if i = k then w.heap.size else r i, ?_, fun i hi => ?_, ⟨h3.1, fun i hi => ?_⟩, fun i j hi hj e => ?_⟩, h3.1, hgl⟩
  · refine (h1'.set_ k (rowv n w.heap.size)).congr (fun i hi => ?_)
    by_cases e : i = k
    · simp [e]
    · by_cases e2 : i < k
      · have : i < k + 1 := by omega
        simp [e, e2, this]
      · have : ¬ i < k + 1 := by omega
        simp [e, e2, this]
  · by_cases e : i = k
    · simp only [e, if_true]
      exact (FA.new w 4 bv false n).far (fun e' => by simp at e'; omega) _
    · simp only [if_neg e]
      have h5 := (h2 i (by omega)).fr0 ((Fr.refl [] w).alloc (.cells (Array.replicate n (.bool false)) 4))
      exact h5.far (fun e' => Arr.ne (h2 i (by omega)) h1 (by decide) e') _
  · by_cases e : i = k
    · simp [e]; exact hb
    · simp only [if_neg e]; exact h3.2 i (by omega)
  · by_cases ei : i = k
    · by_cases ej : j = k
      · omega
      · simp only [ei, if_true, if_neg ej] at e
        have := (h2 j (by omega)).lt
        omega
    · by_cases ej : j = k
      · simp only [ej, if_true, if_neg ei] at e
        have := (h2 i (by omega)).lt
        omega
      · simp only [if_neg ei, if_neg ej] at e
        exact h4 i j (by omega) (by omega) e
end
theorem bools_info : (Try.prog.info? 60).map (fun i => (i.zero, i.size, i.bytes)) = some (some (.slice none 0 0), 1, 24) := by kernel_rfl
theorem make_rows (n c : Nat) (hnc : n ≤ c) (hc : c ≤ 1000000) (w : World) : (Instr.makeSlice 77 (.int .i64 (n : Int)) (.int .i64 (c : Int))).run Try.prog w = .ok (.slice (some ⟨w.heap.size, 0, none⟩) n c) (w.alloc (.cells (Array.replicate c (.slice none 0 0)) 60)) :=
  run_make_one _ _ _ 24 Try.underlying77 bools_info rfl n c hnc (by omega) hc w
end Go.Proofs.Ytinengemeppefaa

