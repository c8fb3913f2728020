/- Walks over the reference of layer 30: phase, permutation, Next, Asleep, Result. -/
import Derived.Test.YtgbkgiglagfciaaSuspR2
namespace Go.Proofs.Ytgbkgiglagfciaa
open Go.RowKit

def phaseTo (p : Nat) (ord : List Nat) (r : Bool) (k : Nat) : List (Nat × Nat) := (List.range k).map fun i => (p, ord.getD (if r then ord.length - 1 - i else i) 0)
theorem phaseTo_succ (p : Nat) (ord : List Nat) (r : Bool) (k : Nat) : phaseTo p ord r (k + 1) = phaseTo p ord r k ++ [(p, ord.getD (if r then ord.length - 1 - k else k) 0)] := by
  simp [phaseTo, List.range_succ]
def PhaseRel (w : World) (p : Nat) (ord : List Nat) (r : Bool) (m : Nat) (v i : Value) (wr : World) : Prop :=
  ∃ k : Nat, k ≤ ord.length ∧ i = .int .i64 k ∧ wr.ownsRow w.heap.size 30 2 v k (opCells (phaseTo p ord r k)) ∧ Fr [] w wr ∧ m = ord.length - k

set_option maxHeartbeats 1000000 in
theorem phase_any (A : Option Addr) (cp p : Nat) (ord : List Nat) (r : Bool) (w : World) (hr : Row w A (ord.map nv)) (hn : ord.length ≤ 64) :
    Calls Try.prog 43 #[.int .i64 p, .slice A ord.length cp, .bool r] w (OwnRet w 30 2 ord.length (opCells (phaseL p ord r))) := by
  obtain ⟨i0, hi0, hz0, hz1, hz2⟩ := info_parts op_info
  have HI := hide (And.intro hi0 (And.intro hz0 (And.intro hz1 hz2)))
  have HR := hide hr
  clear hr hi0 hz0 hz1 hz2
  go_enter Try.func43, Try.ntmps43
  go_wp2
  go_loopg [7, 8] ord.length (fun m v i wr => PhaseRel w p ord r m v i wr)
  case atStart => exact ⟨0, Nat.zero_le _, rfl, own_nil _ _ _ _, Fr.refl _ _, rfl⟩
  case round =>
    obtain ⟨k, hk, rfl, hown, hfr, hm⟩ := hrel
    have HM := hide hm
    have HOWN := hide hown
    obtain ⟨A7, c7, rfl, -, -, -⟩ := own_slice hown
    clear hm hown
    by_cases hlt : k < ord.length
    · obtain ⟨d, hd⟩ : ∃ d, d = ord.getD (if r then ord.length - 1 - k else k) 0 := ⟨_, rfl⟩
      have hget := map_nv_get (o := ord) (k := if r then ord.length - 1 - k else k) (by split <;> omega)
      rw [← hd] at hget
      obtain ⟨ob, oo, rfl, hc⟩ := (HR.out.fr0 hfr).at_ hget
      have hob := World.block_lt_of_cell? wr _ hc
      simp only at hob
      have hps := phaseTo_succ p ord r k
      rw [← hd] at hps
      have HPS := hide hps
      clear hget hd hps
      have htn : ((ord.length : Int) - 1 - (k : Int)).toNat = ord.length - 1 - k := by omega
      cases r
      all_goals
        simp only [if_true, if_false, Bool.false_eq_true] at hc
        go_wp2_with (first
          | (at_builtin
             refine wpList_append_row _ rfl (.tmp 23) (.tmp 30) _ rfl w.heap.size 30 i0 (.agg #[.int .i64 0, .int .i64 0]) 2 16 Try.underlying31 HI.out.1 HI.out.2.1 HI.out.2.2.1 HI.out.2.2.2 rfl (by omega) (.slice A7 k c7) k (opCells (phaseTo p ord _ k)) rfl
               (own_fr HOWN.out ((Fr.refl [] _).alloc _) (fun _ _ => by simp)) (some ⟨wr.heap.size, 0, none⟩) 1 1 [nv p, nv d] rfl rfl (row_lit _ _ _ rfl) (one2 p d) (by simp only [maxLen]; omega) (by omega) (by have := hfr.size; simp; omega) ?_
             intro v1 w4 hown4 hg4 hat4))
        go_roundg (ord.length - (k + 1))
        case measure => rw [HM.out]; omega
        case rel =>
          refine ⟨k + 1, by omega, by go_num, ?_, (hfr.alloc _).grown hg4 (fun g e => .inr (own_block HOWN.out e).1), rfl⟩
          rw [HPS.out, opCells_snoc]
          exact hown4
    · go_wp2
      go_ret
      have hkl : k = ord.length := by omega
      subst hkl
      exact ⟨_, rfl, HOWN.out, hfr⟩

set_option maxHeartbeats 400000 in
theorem rnext_any {b : Nat} {F : List Nat} {R : RSeq} {w : World} (h : RefAt w b F R) :
    Calls Try.prog 29 #[.pointer (some ⟨b, 0, none⟩)] w fun e w' => e = .returned (.tuple #[.agg #[nv R.next.1.1, nv R.next.1.2], .bool R.next.2]) ∧ Fr [] w w' := by
  have hlt := h.lt
  obtain ⟨vo, A, cp, vg, hb, hf, hcap, hp⟩ := h
  have c1 := hb.cell 1
  simp [refCells] at c1
  have HROW := hide hp.hplan.row
  unfold RSeq.next
  cases hpl : R.plan with
  | nil =>
    rw [hpl] at c1
    clear hb hp hpl
    simp at c1
    go_enter Try.func29, Try.ntmps29
    go_wp2
    refine bodyPost_ret (v := .tuple #[.agg #[.int .i64 0, .int .i64 0], .bool false]) (by simp [results, Try.results29, go_sem]) rfl ⟨rfl, ?_⟩
    exact (Fr.refl _ _).alloc _
  | cons x t =>
    obtain ⟨p, d⟩ := x
    have hrow := HROW.out
    rw [hpl] at c1 hrow
    obtain ⟨ob, oo, rfl, k1⟩ := hrow.at_ (i := 0) (u := nv p) rfl
    obtain ⟨_, _, e, k2⟩ := hrow.at_ (i := 1) (u := nv d) rfl
    cases e
    have hob := World.block_lt_of_cell? w _ k1
    simp only at hob
    simp only [Nat.add_zero] at k1
    have hx : (((t.length : Int) + 1) == 0) = false := by rw [beq_eq_false_iff_ne]; omega
    have hx2 : (0 : Int) < (t.length : Int) + 1 := by omega
    clear hb hp hpl hrow HROW
    simp at c1
    go_enter Try.func29, Try.ntmps29
    go_wp2
    refine bodyPost_ret (v := .tuple #[.agg #[.int .i64 p, .int .i64 d], .bool true]) (by simp [results, Try.results29, go_sem]) rfl ⟨rfl, ?_⟩
    exact (Fr.refl _ _).alloc _

set_option maxHeartbeats 400000 in
theorem rasleep_any {b : Nat} {F : List Nat} {R : RSeq} {w : World} (h : RefAt w b F R) :
    Calls Try.prog 31 #[.pointer (some ⟨b, 0, none⟩)] w fun e w' => e = .returned (.bool R.sleeps) ∧ w = w' := by
  obtain ⟨vo, A, cp, vg, hb, hf, hcap, hp⟩ := h
  have c4 := hb.cell 4
  simp [refCells] at c4
  clear hb hp
  go_enter Try.func31, Try.ntmps31
  go_wp2
  go_ret
  exact ⟨rfl, rfl⟩
set_option maxHeartbeats 400000 in
theorem rresult_any {b : Nat} {F : List Nat} {R : RSeq} {w : World} (h : RefAt w b F R) :
    Calls Try.prog 30 #[.pointer (some ⟨b, 0, none⟩)] w fun e w' => e = .returned (.tuple #[.int .i64 R.result.1, .bool R.result.2]) ∧ w = w' := by
  obtain ⟨vo, A, cp, vg, hb, hf, hcap, hp⟩ := h
  have c5 := hb.cell 5
  have c6 := hb.cell 6
  simp [refCells] at c5 c6
  clear hb hp
  unfold RSeq.result
  cases hd : R.done
  all_goals
    rw [hd] at c5
    clear hd
    go_enter Try.func30, Try.ntmps30
    go_wp2
    go_ret2
    exact ⟨rfl, rfl⟩
end Go.Proofs.Ytgbkgiglagfciaa
