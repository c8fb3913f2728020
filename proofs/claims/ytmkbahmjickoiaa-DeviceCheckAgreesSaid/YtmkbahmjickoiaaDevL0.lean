/- Chapter 27, shared by the laws: one device that came in by value. -/
import Derived.Test.YtmkbahmjickoiaaDevW13
import Derived.Test.YtmkbahmjickoiaaDevW14
import Derived.Test.YtmkbahmjickoiaaOpenD
namespace Go.Proofs.Ytmkbahmjickoiaa
open Go.RowKit

theorem some_one {x : DV} {out : List DV} {n : Nat} (h : SomeTo [x] out n (min [x].length 6)) : ∃ rf, out = [⟨someP x 0 rf, someRl x n⟩] := by
  have hl : out.length = 1 := h.1
  obtain ⟨rf, hr⟩ := h.2 0 x (by simp) rfl
  match out, hl with
  | [y], _ =>
    refine ⟨rf, ?_⟩
    simp at hr
    rw [hr]
theorem someRl_len (x : DV) (n k : Nat) : (someRl x n k).length ≤ 4096 := by
  unfold someRl
  split
  · have := ascL_len (x.rl k) n
    omega
  · simp
/-- Some of one device, as the laws call it. -/
def One (w : World) (x : DV) (n : Nat) (e : Ending) (w' : World) : Prop :=
  ∃ A cp rf, e = .returned (.slice (some A) 1 cp) ∧ RailsAt w' (someP x 0 rf) (someRl x n) ∧ PDat w' A.block A.off (someP x 0 rf) ∧ A.spot = none ∧ w.heap.size ≤ A.block ∧ Fr [] w w'
theorem some_at (x : DV) (n g : Nat) (w : World) (hg : g = w.heap.size) (hx : DvWf w x) (hn : n ≤ 4096) :
    Calls Try.prog 11 #[.slice (some ⟨g, 0, none⟩) 1 1, .int .i64 (n : Int)] (w.alloc (.cells x.d.cells 33)) (One (w.alloc (.cells x.d.cells 33)) x n) := by
  subst hg
  have hf : Fr [] w (w.alloc (.cells x.d.cells 33)) := (Fr.refl _ _).alloc _
  have hd : DvsAt (w.alloc (.cells x.d.cells 33)) (some ⟨w.heap.size, 0, none⟩) [x] := ⟨by
    have := row_lit w x.d.cells 33 rfl
    simpa [dvcs, dvc] using this, fun y hy => by rw [List.mem_singleton.1 hy]; exact hx.1.fr0 hf⟩
  refine (some27_any (some ⟨w.heap.size, 0, none⟩) 1 [x] n _ hd (by simp [maxLen]) (fun y hy => by rw [List.mem_singleton.1 hy]; exact hx.2.1) hn).mono ?_
  rintro e w' ⟨v, out, rfl, hown, hr, hso, hf'⟩
  obtain ⟨rf, rfl⟩ := some_one hso
  obtain ⟨A, cp, rfl, -, hrow, hb⟩ := own_slice hown
  have hra := (hr _ (List.mem_singleton.2 rfl)).at_
  have hdv : DvsAt w' A [⟨someP x 0 rf, someRl x n⟩] := ⟨hrow, fun y hy => by rw [List.mem_singleton.1 hy]; exact hra⟩
  obtain ⟨ob, oo, rfl, hp⟩ := hdv.el (i := 0) rfl
  rw [Nat.zero_mul, Nat.add_zero] at hp
  exact ⟨_, cp, rf, rfl, hra, hp, rfl, (hb _ rfl).1, hf'⟩
theorem PDat.fr0 {w w' : World} {b o : Nat} {d : PD} (h : PDat w b o d) (k : Fr [] w w') : PDat w' b o d := by
  obtain ⟨c0, c1, c2, c3, c4, c5, c6, c7, c8, c9, c10, c11, c12⟩ := h
  exact ⟨k.cell c0 (by simp), k.cell c1 (by simp), k.cell c2 (by simp), k.cell c3 (by simp), k.cell c4 (by simp), k.cell c5 (by simp), k.cell c6 (by simp), k.cell c7 (by simp), k.cell c8 (by simp), k.cell c9 (by simp), k.cell c10 (by simp), k.cell c11 (by simp), k.cell c12 (by simp)⟩
theorem DvWf.fr0 {w w' : World} {x : DV} (h : DvWf w x) (k : Fr [] w w') : DvWf w' x := ⟨h.1.fr0 k, h.2⟩
theorem DvWf.lit {w : World} {x : DV} (h : DvWf w x) : ∃ A0 q0 A1 q1 A2 q2 A3 q3, x.d.rf 0 = .slice A0 (x.rl 0).length q0 ∧ x.d.rf 1 = .slice A1 (x.rl 1).length q1 ∧ x.d.rf 2 = .slice A2 (x.rl 2).length q2 ∧ x.d.rf 3 = .slice A3 (x.rl 3).length q3 := by
  obtain ⟨A0, q0, e0, -⟩ := h.1 0 (by omega)
  obtain ⟨A1, q1, e1, -⟩ := h.1 1 (by omega)
  obtain ⟨A2, q2, e2, -⟩ := h.1 2 (by omega)
  obtain ⟨A3, q3, e3, -⟩ := h.1 3 (by omega)
  exact ⟨A0, q0, A1, q1, A2, q2, A3, q3, e0, e1, e2, e3⟩
end Go.Proofs.Ytmkbahmjickoiaa
