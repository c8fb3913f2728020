/- Walks over suspend's methods: Complete's other ways, Abort, Wake, Asleep, Result, Next. -/
import Derived.Test.YtgbkgiglagfciaaSuspW2
namespace Go.Proofs.Ytgbkgiglagfciaa
open Go.RowKit

set_option maxHeartbeats 1000000 in
theorem complete_up {b : Nat} {S : Seq} {w : World} (r : Int) (h : SeqAt w b S) (ho : OkOrd S.ord) (h3 : S.st = 3) (g5 : 5 ≤ S.ph) (g8 : S.ph ≤ 8) (gp : S.po < S.ord.length) :
    Calls Try.prog 20 #[.pointer (some ⟨b, 0, none⟩), .int .i64 r] w fun e w' => e = .returned (.int .i64 0) ∧ SeqAt w' b (S.up r) ∧ Fr [b] w w' := by
  obtain ⟨A, cp, c0, c1, c2, c3, c4, hs, hf, hr, hoff⟩ := h.cells
  have h64 := ho.1
  rw [h3] at c1
  have H3 := hide h3
  have f3 := hf 3
  have f4 := hf 324
  clear hs hf h3
  by_cases hz : S.rs = 0
  · have hb : (S.rs == 0) = true := by rw [beq_iff_eq]; exact hz
    have HZ := hide hz
    clear hz
    go_enter Try.func20, Try.ntmps20
    go_wp2_with fail
    rw [show ((S.po : Int) + 1) = ((S.po + 1 : Nat) : Int) by omega]
    refine (skip_any (S := { S with rs := r, po := S.po + 1 }) ((h.rs_ r).po_ (S.po + 1)) ho g5 g8 (by simp; omega)).mono ?_
    rintro e w1 ⟨rfl, hat, hfr⟩
    go_wp2
    go_ret
    refine ⟨rfl, ?_, (((Fr.refl _ _).set (.inl (by simp)) _).set (.inl (by simp)) _).trans hfr⟩
    have e : S.up r = ({ S with rs := r, po := S.po + 1 } : Seq).skip := by simp [Seq.up, HZ.out]
    rw [e]
    exact hat
  · have hb : (S.rs == 0) = false := by rw [beq_eq_false_iff_ne]; exact hz
    have HZ := hide hz
    clear hz
    go_enter Try.func20, Try.ntmps20
    go_wp2_with fail
    rw [show ((S.po : Int) + 1) = ((S.po + 1 : Nat) : Int) by omega]
    refine (skip_any (S := { S with po := S.po + 1 }) (h.po_ (S.po + 1)) ho g5 g8 (by simp; omega)).mono ?_
    rintro e w1 ⟨rfl, hat, hfr⟩
    go_wp2
    go_ret
    refine ⟨rfl, ?_, ((Fr.refl _ _).set (.inl (by simp)) _).trans hfr⟩
    have e : S.up r = ({ S with po := S.po + 1 } : Seq).skip := by simp [Seq.up, HZ.out]
    rw [e]
    exact hat

set_option maxHeartbeats 400000 in
theorem complete_no {b : Nat} {S : Seq} {w : World} (r : Int) (h : SeqAt w b S) (h1 : S.st ≠ 1) (h3 : S.st ≠ 3) :
    Calls Try.prog 20 #[.pointer (some ⟨b, 0, none⟩), .int .i64 r] w fun e w' => e = .returned (.int .i64 9) ∧ SeqAt w' b S ∧ Fr [b] w w' := by
  obtain ⟨A, cp, c0, c1, c2, c3, c4, hs, hf, hr, hoff⟩ := h.cells
  have e1 : ((S.st : Int) == 1) = false := by rw [beq_eq_false_iff_ne]; omega
  have e3 : ((S.st : Int) == 3) = false := by rw [beq_eq_false_iff_ne]; omega
  clear hs hf h1 h3 c0 c2 c3 c4
  go_enter Try.func20, Try.ntmps20
  go_wp2
  go_ret
  exact ⟨rfl, h, Fr.refl _ _⟩

theorem complete_any {b : Nat} {S : Seq} {w : World} (r : Int) (h : SeqAt w b S) (ok : S.Ok) :
    Calls Try.prog 20 #[.pointer (some ⟨b, 0, none⟩), .int .i64 r] w fun e w' => e = .returned (.int .i64 (S.complete r).2) ∧ SeqAt w' b (S.complete r).1 ∧ Fr [b] w w' := by
  unfold Seq.complete
  by_cases h1 : S.st = 1
  · obtain ⟨g1, g4, gp⟩ := ok.down h1
    by_cases hr : r = 0
    · subst hr
      simp only [h1, if_true]
      exact complete_down h ok.ord h1 g1 g4 gp
    · simp only [h1, if_true, hr, if_false]
      exact complete_fail r h ok.ord h1 hr
  · by_cases h3 : S.st = 3
    · obtain ⟨g5, g8, gp⟩ := ok.up h3
      simp only [h1, if_false, h3, if_true]
      simp only [h3, show ¬ (3 = 1) by omega, if_false]
      exact complete_up r h ok.ord h3 g5 g8 gp
    · simp only [h1, if_false, h3]
      exact complete_no r h h1 h3

set_option maxHeartbeats 400000 in
theorem abort_any {b : Nat} {S : Seq} {w : World} (h : SeqAt w b S) (ho : OkOrd S.ord) :
    Calls Try.prog 25 #[.pointer (some ⟨b, 0, none⟩)] w fun e w' => e = .returned (.int .i64 S.abort.2) ∧ SeqAt w' b S.abort.1 ∧ Fr [b] w w' := by
  obtain ⟨A, cp, c0, c1, c2, c3, c4, hs, hf, hr, hoff⟩ := h.cells
  clear hs hf c0 c2 c3 c4
  unfold Seq.abort
  by_cases h1 : S.st = 1
  · have e1 : ((S.st : Int) != 1) = false := by simp [h1]
    simp only [h1, if_true]
    clear h1
    go_enter Try.func25, Try.ntmps25
    go_wp2_with fail
    refine (undo_any 20 h ho).mono ?_
    rintro e w1 ⟨rfl, hat, hfr⟩
    go_wp2
    go_ret
    exact ⟨rfl, hat, hfr⟩
  · have e1 : ((S.st : Int) != 1) = true := by rw [bne_iff_ne]; omega
    simp only [h1, if_false]
    clear h1
    go_enter Try.func25, Try.ntmps25
    go_wp2_with fail
    go_ret
    exact ⟨rfl, h, Fr.refl _ _⟩

set_option maxHeartbeats 400000 in
theorem wake_any {b : Nat} {S : Seq} {w : World} (h : SeqAt w b S) (ho : OkOrd S.ord) :
    Calls Try.prog 22 #[.pointer (some ⟨b, 0, none⟩)] w fun e w' => e = .returned (.int .i64 S.wake.2) ∧ SeqAt w' b S.wake.1 ∧ Fr [b] w w' := by
  obtain ⟨A, cp, c0, c1, c2, c3, c4, hs, hf, hr, hoff⟩ := h.cells
  clear hs hf c0 c2 c3 c4
  unfold Seq.wake
  by_cases h1 : S.st = 2
  · have e1 : ((S.st : Int) != 2) = false := by simp [h1]
    simp only [h1, if_true]
    clear h1
    go_enter Try.func22, Try.ntmps22
    go_wp2_with fail
    refine (undo_any 0 h ho).mono ?_
    rintro e w1 ⟨rfl, hat, hfr⟩
    go_wp2
    go_ret
    exact ⟨rfl, hat, hfr⟩
  · have e1 : ((S.st : Int) != 2) = true := by rw [bne_iff_ne]; omega
    simp only [h1, if_false]
    clear h1
    go_enter Try.func22, Try.ntmps22
    go_wp2_with fail
    go_ret
    exact ⟨rfl, h, Fr.refl _ _⟩

set_option maxHeartbeats 400000 in
theorem asleep_any {b : Nat} {S : Seq} {w : World} (h : SeqAt w b S) :
    Calls Try.prog 21 #[.pointer (some ⟨b, 0, none⟩)] w fun e w' => e = .returned (.bool S.asleep) ∧ w = w' := by
  obtain ⟨A, cp, c0, c1, c2, c3, c4, hs, hf, hr, hoff⟩ := h.cells
  clear hs hf c0 c2 c3 c4
  go_enter Try.func21, Try.ntmps21
  go_wp2_with fail
  go_ret
  exact ⟨ret_bool (by unfold Seq.asleep; rw [Bool.eq_iff_iff, beq_iff_eq, beq_iff_eq]; omega), rfl⟩

set_option maxHeartbeats 400000 in
theorem result_any {b : Nat} {S : Seq} {w : World} (h : SeqAt w b S) :
    Calls Try.prog 23 #[.pointer (some ⟨b, 0, none⟩)] w fun e w' => e = .returned (.tuple #[.int .i64 S.result.1, .bool S.result.2]) ∧ w = w' := by
  obtain ⟨A, cp, c0, c1, c2, c3, c4, hs, hf, hr, hoff⟩ := h.cells
  clear hs hf c0 c2 c3
  unfold Seq.result
  by_cases h1 : S.st = 4
  · have e1 : ((S.st : Int) != 4) = false := by simp [h1]
    simp only [h1, if_true]
    clear h1
    go_enter Try.func23, Try.ntmps23
    go_wp2_with fail
    go_ret2
    exact ⟨rfl, rfl⟩
  · have e1 : ((S.st : Int) != 4) = true := by rw [bne_iff_ne]; omega
    simp only [h1, if_false]
    clear h1
    go_enter Try.func23, Try.ntmps23
    go_wp2_with fail
    go_ret2
    exact ⟨rfl, rfl⟩

set_option maxHeartbeats 400000 in
theorem next_yes {b d : Nat} {S : Seq} {w : World} (h : SeqAt w b S) (ho : OkOrd S.ord) (hp : S.po < S.ord.length) (hd : S.dev = d) (h1 : S.st = 1 ∨ S.st = 3) :
    Calls Try.prog 28 #[.pointer (some ⟨b, 0, none⟩)] w fun e w' => e = .returned (.tuple #[.agg #[nv S.ph, nv d], .bool true]) ∧ Fr [] w w' := by
  obtain ⟨A, cp, c0, c1, c2, c3, c4, hs, hf, hr, hoff⟩ := h.cells
  have hlt := h.lt
  have HD := hide hd
  clear hs hf c0 c3 c4 hr hoff hd
  rcases h1 with h1 | h1
  all_goals
    rw [h1] at c1
    clear h1
    go_enter Try.func28, Try.ntmps28
    go_wp2_with fail
    go_region_held3 (fun w' => w'.cell? ⟨b, 2, none⟩ = some (.int .i64 S.ph)) (first | go_keep | exact Fr.cell (S := []) (by repeat (first | exact Fr.refl _ _ | refine Fr.drewN ?_ _ | refine Fr.drew ?_ | refine Fr.alloc ?_ _ | refine Fr.set ?_ (.inr (by simp)) _)) c2 (by simp)) (first | (go_at_call 46; refine (device_any (S := S) ((h.alloc _).drew) ho hp HD.out).mono ?_; rintro e w' ⟨rfl, k, rfl⟩))
    go_wp2
    have hbk := (((Blk.new w 30 #[.int .i64 0, .int .i64 0]).drewN (1 + k)).set_ 0 (.int .i64 S.ph)).set_ 1 (.int .i64 d)
    have k0 := hbk.cell 0
    have k1 := hbk.cell 1
    simp at k0 k1
    refine bodyPost_ret (v := .tuple #[.agg #[.int .i64 S.ph, .int .i64 d], .bool true]) (by simp [results, Try.results28, go_sem, k0, k1]) rfl ⟨rfl, ?_⟩
    repeat (first | exact Fr.refl _ _ | refine Fr.drewN ?_ _ | refine Fr.alloc ?_ _ | refine Fr.set ?_ (.inr (by simp)) _)
set_option maxHeartbeats 400000 in
theorem next_no {b : Nat} {S : Seq} {w : World} (h : SeqAt w b S) (h1 : S.st ≠ 1) (h3 : S.st ≠ 3) :
    Calls Try.prog 28 #[.pointer (some ⟨b, 0, none⟩)] w fun e w' => e = .returned (.tuple #[.agg #[nv 0, nv 0], .bool false]) ∧ Fr [] w w' := by
  obtain ⟨A, cp, c0, c1, c2, c3, c4, hs, hf, hr, hoff⟩ := h.cells
  have hlt := h.lt
  have e1 : ((S.st : Int) != 1) = true := by rw [bne_iff_ne]; omega
  have e3 : ((S.st : Int) != 3) = true := by rw [bne_iff_ne]; omega
  clear hs hf c0 c3 c4 hr hoff h1 h3
  go_enter Try.func28, Try.ntmps28
  go_wp2_with fail
  refine bodyPost_ret (v := .tuple #[.agg #[.int .i64 0, .int .i64 0], .bool false]) (by simp [results, Try.results28, go_sem]) rfl ⟨rfl, ?_⟩
  exact (Fr.refl _ _).alloc _
theorem next_any {b : Nat} {S : Seq} {w : World} (h : SeqAt w b S) (ok : S.Ok) :
    Calls Try.prog 28 #[.pointer (some ⟨b, 0, none⟩)] w fun e w' => e = .returned (.tuple #[.agg #[nv S.next.1.1, nv S.next.1.2], .bool S.next.2]) ∧ Fr [] w w' := by
  unfold Seq.next
  by_cases h1 : S.st = 1 ∨ S.st = 3
  · simp only [h1, if_true]
    exact next_yes h ok.ord (h1.elim (fun e => (ok.down e).2.2) (fun e => (ok.up e).2.2)) rfl h1
  · simp only [h1, if_false]
    exact next_no h (fun e => h1 (.inl e)) (fun e => h1 (.inr e))
end Go.Proofs.Ytgbkgiglagfciaa
