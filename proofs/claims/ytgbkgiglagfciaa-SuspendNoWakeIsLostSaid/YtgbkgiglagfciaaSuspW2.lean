/- Walks over suspend's methods: undo, Complete, Abort, Wake, Asleep, Result, Next. -/
import Derived.Test.YtgbkgiglagfciaaSuspW1
import Derived.Deep.RegionHeld3
import Derived.Deep.Cut
import Derived.Deep.CutBlock
namespace Go.Proofs.Ytgbkgiglagfciaa
open Go.RowKit

set_option maxHeartbeats 400000 in
theorem undo_any {b : Nat} {S : Seq} {w : World} (r : Int) (h : SeqAt w b S) (ho : OkOrd S.ord) :
    Calls Try.prog 45 #[.pointer (some ⟨b, 0, none⟩), .int .i64 r] w fun e w' => e = .returned (.tuple #[]) ∧ SeqAt w' b (S.undo r) ∧ Fr [b] w w' := by
  obtain ⟨A, cp, c0, c1, c2, c3, c4, hs, hf, hr, hoff⟩ := h.cells
  have f1 := hf 1
  have f2 := hf 2
  have f3 := hf 3
  have f4 := hf 324
  clear hs hf
  go_enter Try.func45, Try.ntmps45
  go_wp2_with fail
  refine (skip_any (S := { S with st := 3, rs := r, ph := 5, po := 0 }) ((((h.st_ 3).rs_ r).ph_ 5).po_ 0) ho (by simp) (by simp) (by simp)).mono ?_
  rintro e w1 ⟨rfl, hat, hfr⟩
  go_wp2
  go_end0
  exact ⟨rfl, hat, (((((Fr.refl _ _).set (.inl (by simp)) _).set (.inl (by simp)) _).set (.inl (by simp)) _).set (.inl (by simp)) _).trans hfr⟩

set_option maxHeartbeats 400000 in
theorem complete_fail {b : Nat} {S : Seq} {w : World} (r : Int) (h : SeqAt w b S) (ho : OkOrd S.ord) (h1 : S.st = 1) (hr0 : r ≠ 0) :
    Calls Try.prog 20 #[.pointer (some ⟨b, 0, none⟩), .int .i64 r] w fun e w' => e = .returned (.int .i64 0) ∧ SeqAt w' b (S.undo r) ∧ Fr [b] w w' := by
  obtain ⟨A, cp, c0, c1, c2, c3, c4, hs, hf, hr, hoff⟩ := h.cells
  have hb : (r != 0) = true := by simpa using hr0
  rw [h1] at c1
  have H1 := hide h1
  clear hs hf h1 hr0 c0 c2 c3 c4
  go_enter Try.func20, Try.ntmps20
  go_wp2_with fail
  refine (undo_any r h ho).mono ?_
  rintro e w1 ⟨rfl, hat, hfr⟩
  go_wp2
  go_ret
  exact ⟨rfl, hat, hfr⟩

set_option maxHeartbeats 1000000 in
theorem complete_down {b : Nat} {S : Seq} {w : World} (h : SeqAt w b S) (ho : OkOrd S.ord) (h1 : S.st = 1) (g1 : 1 ≤ S.ph) (g4 : S.ph ≤ 4) (gp : S.po < S.ord.length) :
    Calls Try.prog 20 #[.pointer (some ⟨b, 0, none⟩), .int .i64 0] w fun e w' => e = .returned (.int .i64 0) ∧ SeqAt w' b S.down ∧ Fr [b] w w' := by
  obtain ⟨A, cp, c0, c1, c2, c3, c4, hs, hf, hr, hoff⟩ := h.cells
  have h64 := ho.1
  rw [h1] at c1
  have hdl := devAt_lt ho (ph := S.ph) gp
  have hcell := hs (S.ph * 64 + devAt S.ord S.ph S.po) (by omega)
  have hfz := hf (4 + (S.ph * 64 + devAt S.ord S.ph S.po))
  generalize hdd : devAt S.ord S.ph S.po = d at hdl hcell hfz
  have HD := hide hdd
  have H1 := hide h1
  rw [← Nat.add_assoc] at hcell hfz
  have i2 : (S.ph : Int) < 5 := by omega
  have i5 : (d : Int) < 64 := by omega
  clear hs hf h1 hdd
  go_enter Try.func20, Try.ntmps20
  go_wp2_with fail
  go_region_held3 (fun w' => w'.cell? ⟨b, 2, none⟩ = some (.int .i64 S.ph)) (first | go_keep | exact (World.cell?_setCell_other _ _ _ _ (by intro he; injection he with _ he; omega)).trans c2) (first | (go_at_call 46; refine (device_any (S := S) (h.drew) ho gp HD.out).mono ?_; rintro e w' ⟨rfl, k, rfl⟩))
  have hj : S.ph * 64 + d < 320 := by omega
  have hat1 : SeqAt ((w.drewN (1 + k)).setCell ⟨b, 4 + S.ph * 64 + d, none⟩ (.bool true)) b { S with sc := setF S.sc (S.ph * 64 + d) } := by
    rw [Nat.add_assoc 4]; exact (h.drewN _).sc_ hj
  have hfr1 : Fr [b] w ((w.drewN (1 + k)).setCell ⟨b, 4 + S.ph * 64 + d, none⟩ (.bool true)) := ((Fr.refl _ _).drewN _).set (.inl (by simp)) _
  generalize ((w.drewN (1 + k)).setCell ⟨b, 4 + S.ph * 64 + d, none⟩ (.bool true)) = w1 at hat1 hfr1 ⊢
  clear c0 c1 c2 c3 c4 hr hoff hcell hfz
  have hat2 := hat1.po_ (S.po + 1)
  have hfr2 := hfr1.set (p := ⟨b, 3, none⟩) (.inl (by simp)) (.int .i64 ((S.po + 1 : Nat) : Int))
  obtain ⟨A, cp, c0, c1, c2, c3, c4, hs, hf, hr, hoff⟩ := hat1.cells
  have f3 := hf 3
  clear hs hf c4
  go_upto_region 8 with (fail)
  rw [show ((S.po : Int) + 1) = ((S.po + 1 : Nat) : Int) by omega]
  generalize (w1.setCell ⟨b, 3, none⟩ (.int .i64 ((S.po + 1 : Nat) : Int))) = w2 at hat2 hfr2 ⊢
  clear c0 c1 c2 c3 hr hoff f3 hat1 hfr1
  have HD2 : Hid (S.dev = d) := HD.out
  by_cases hl : S.po + 1 = S.ord.length
  · have hb : (((S.po + 1 : Nat) : Int) == (S.ord.length : Int)) = true := by rw [beq_iff_eq]; omega
    have HL := hide hl
    clear hl
    have hat3 := ((hat2.drewN 0).po_ 0).ph_ (S.ph + 1)
    obtain ⟨A, cp, c0, c1, c2, c3, c4, hs, hf, hr, hoff⟩ := hat2.cells
    have f1 := hf 1
    have f2 := hf 2
    have f3 := hf 3
    dsimp only at c0 c1 c2 c3
    clear hs hf c4
    go_quiet (fail)
    by_cases h4 : S.ph = 4
    · have H4 := hide h4
      have g5 : decide ((4 : Int) < (S.ph : Int) + 1) = true := by simp; omega
      have g5' : (4 : Int) < (S.ph : Int) + 1 := by omega
      clear h4
      go_wp2
      go_ret
      refine ⟨rfl, ?_, (((hfr2.drewN _).set (.inl (by simp)) _).set (.inl (by simp)) _).set (.inl (by simp)) _⟩
      have e : S.down = { S with sc := setF S.sc (S.ph * 64 + d), po := 0, ph := S.ph + 1, st := 2 } := by
        simp [Seq.down, HL.out, H4.out, HD2.out]
      rw [e]
      exact (((hat2.drewN _).po_ 0).ph_ (S.ph + 1)).st_ 2
    · have g5 : decide ((4 : Int) < (S.ph : Int) + 1) = false := by simp; omega
      have g5' : ¬ (4 : Int) < (S.ph : Int) + 1 := by omega
      go_wp2
      go_ret
      refine ⟨rfl, ?_, ((hfr2.drewN _).set (.inl (by simp)) _).set (.inl (by simp)) _⟩
      have e : S.down = { S with sc := setF S.sc (S.ph * 64 + d), po := 0, ph := S.ph + 1 } := by
        have : ¬ 4 < S.ph + 1 := by omega
        simp [Seq.down, HL.out, HD2.out, this]
      rw [e]
      exact ((hat2.drewN _).po_ 0).ph_ (S.ph + 1)
  · have hb : (((S.po + 1 : Nat) : Int) == (S.ord.length : Int)) = false := by rw [beq_eq_false_iff_ne]; omega
    have HL := hide hl
    clear hl
    obtain ⟨A, cp, c0, c1, c2, c3, c4, hs, hf, hr, hoff⟩ := hat2.cells
    dsimp only at c0 c1 c2 c3
    clear hs hf c4
    go_quiet (fail)
    have g5' : ¬ (4 : Int) < (S.ph : Int) := by omega
    go_wp2
    go_ret
    refine ⟨rfl, ?_, hfr2.drewN _⟩
    have e : S.down = { S with sc := setF S.sc (S.ph * 64 + d), po := S.po + 1 } := by
      have : ¬ 4 < S.ph := by omega
      simp [Seq.down, HL.out, HD2.out, this]
    rw [e]
    exact hat2.drewN _
end Go.Proofs.Ytgbkgiglagfciaa
