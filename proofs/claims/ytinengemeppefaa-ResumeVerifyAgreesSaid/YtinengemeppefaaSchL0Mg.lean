/- What the laws of chapter 31 share. -/
import Derived.Test.YtinengemeppefaaSchW9Mg
import Derived.Test.YtinengemeppefaaGraM6Mg
import Derived.Test.YtinengemeppefaaGraW7Mg
namespace Go.Proofs.Ytinengemeppefaa
open Go.RowKit

/-- The graph that a law makes, durations that fit it, and a number of workers. -/
structure Case31 (N W : Nat) (L : List (Nat × Nat)) (u : List Nat) : Prop where
  nodes : N ≤ 128
  wk : 1 ≤ W ∧ W ≤ 16
  lt : ∀ p ∈ L, p.1 < N ∧ p.2 < N
  len : L.length ≤ 1024
  dlen : u.length = N
  ac : Acyc L
  chk : chkM (N : Int) (ofNs L) u (W : Int) = 0
  sch : schedM (N : Int) (ofNs L) u (W : Int) = (sched N L (durF u) W, 0)
  done : Done N L (durF u) W (sched N L (durF u) W)
  full : (greedy N L).length = N
  basic : basicM (N : Int) (ofNs L) = 0
theorem case31 {N sh : Nat} {L : List (Nat × Nat)} (hg : GOk true N sh 40 L) (hN : N ≤ 128) {W : Nat} (hW : 1 ≤ W ∧ W ≤ 16) {u : List Nat} (hl : u.length = N) (hu : ∀ x ∈ u, x ≤ maxD) : Case31 N W L u := by
  have hb := (hg.links hN).2.2
  have hlt := hg.lt
  have hac := hg.acyc
  have hf : (greedy N L).length = N := (greedy_full hlt).2 hac
  have hck : checkM (N : Int) (ofNs L) = 0 := by
    unfold checkM
    rw [orderM_good hb (by rw [toNs_ofNs]; exact hf)]
  have hc : chkM (N : Int) (ofNs L) u (W : Int) = 0 := chkM_ok hck ⟨by omega, by omega, by omega, hu⟩
  refine ⟨hN, hW, hlt, by have := hg.len; omega, hl, hac, hc, ?_, sched_done hlt hac (by omega), hf, hb⟩
  rw [schedM_ok hc, Int.toNat_natCast, Int.toNat_natCast, toNs_ofNs]
theorem Case31.cp {N W : Nat} {L : List (Nat × Nat)} {u : List Nat} (h : Case31 N W L u) : cpathM (N : Int) (ofNs L) u = (cpM L (durF u) (greedy N L), 0) := by
  have h1 : chkM (N : Int) (ofNs L) u 1 = 0 := chkM_ok (chkM_zero h.chk).1 ⟨(chkM_zero h.chk).2.1, by omega, by omega, (chkM_zero h.chk).2.2.2.2⟩
  rw [cpathM_ok h1, toNs_ofNs]
theorem sumTo_le {f : Nat → Nat} {B : Nat} (h : ∀ i, f i ≤ B) : ∀ k, sumTo f k ≤ k * B
  | 0 => by simp [sumTo]
  | k + 1 => by
    have h1 := sumTo_le h k
    have h2 := h k
    simp only [sumTo, Nat.add_mul, Nat.one_mul]
    omega
theorem durF_le' {u : List Nat} {B : Nat} (h : ∀ x ∈ u, x ≤ B) (d : Nat) : durF u d ≤ B := by
  unfold durF
  rw [List.getD_eq_getElem?_getD]
  cases hd : u[d]? with
  | none => simp
  | some x => simpa using h x (List.mem_of_getElem? hd)
/-- All times of a schedule are at most the number of devices times the longest duration. -/
theorem Case31.time_le {N W : Nat} {L : List (Nat × Nat)} {u : List Nat} (h : Case31 N W L u) {B : Nat} (hB : ∀ x ∈ u, x ≤ B) : mkspan (sched N L (durF u) W) ≤ N * B ∧ sumTo (durF u) N ≤ N * B ∧ ∀ x ∈ sched N L (durF u) W, x.s ≤ x.e ∧ x.e ≤ N * B := by
  have h0 := sumTo_le (durF_le' hB) N
  have ht := h.done.total
  have hb := h.done.inv.bound.2
  rw [← h.done.eq, ht] at hb
  refine ⟨mkspan_le fun x hx => Nat.le_trans (hb x hx) h0, h0, fun x hx => ⟨?_, Nat.le_trans (hb x hx) h0⟩⟩
  have := h.done.time hx
  omega
theorem Row.slt {w : World} {A : Option Addr} {l : List Slt} (hr : Row w A (scells l)) {i : Nat} {x : Slt} (h : l[i]? = some x) :
    ∃ ob oo, A = some ⟨ob, oo, none⟩ ∧ w.cell? ⟨ob, oo + i * 4, none⟩ = some (.int .i64 (x.d : Int)) ∧ w.cell? ⟨ob, oo + i * 4 + 1, none⟩ = some (.int .i64 (x.w : Int)) ∧ w.cell? ⟨ob, oo + i * 4 + 2, none⟩ = some (.int .u64 (x.s : Int)) ∧ w.cell? ⟨ob, oo + i * 4 + 3, none⟩ = some (.int .u64 (x.e : Int)) := by
  obtain ⟨ob, oo, e, hc⟩ := Row.el scell_len (by omega) hr h
  exact ⟨ob, oo, e, hc 0 _ rfl, hc 1 _ rfl, hc 2 _ rfl, hc 3 _ rfl⟩
theorem durF_get {u : List Nat} {i x : Nat} (h : u[i]? = some x) : durF u i = x := by simp [durF, List.getD_eq_getElem?_getD, h]
def TotRel (w1 : World) (u : List Nat) (N m : Nat) (v i : Value) (wr : World) : Prop := ∃ k : Nat, k ≤ N ∧ v = .int .u64 (sumTo (durF u) k : Int) ∧ i = .int .i64 k ∧ w1 = wr ∧ m = N - k
end Go.Proofs.Ytinengemeppefaa

