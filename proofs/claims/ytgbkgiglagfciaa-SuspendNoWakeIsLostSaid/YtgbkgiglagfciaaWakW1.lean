/- Walks: wakeup.Sources: release, end, exists, permitted, advance. -/
import Derived.Test.YtgbkgiglagfciaaSuspM2
import Derived.Test.YtgbkgiglagfciaaWakM
import Derived.Deep.DeepCutAuto
namespace Go.Proofs.Ytgbkgiglagfciaa
open Go.RowKit

set_option maxHeartbeats 4000000 in
theorem wrelease_any {w : World} {b : Nat} {s : WS} {i : Nat} (h : WsAt w b s) (hi : i < 32) :
    Calls Try.prog 54 #[.pointer (some ⟨b, 0, none⟩), .int .i64 (i : Int)] w fun e w' => e = .returned (.tuple #[]) ∧ WsAt w' b (relM s i) ∧ Fr [b] w w' := by
  obtain ⟨-, c1, -⟩ := h.src hi
  have f1 := h.frozen (i * 3 + 1)
  have h1 := h.putH hi false
  obtain ⟨-, -, c2⟩ := h1.src hi
  have f2 := h1.frozen (i * 3 + 2)
  have H1 := hide h1
  clear h h1
  go_enter Try.func54, Try.ntmps54
  go_wp2
  go_end0
  exact ⟨rfl, H1.out.putT hi 0, ((Fr.refl _ _).set (.inl (by simp)) _).set (.inl (by simp)) _⟩
set_option maxHeartbeats 4000000 in
theorem wend_any {w : World} {b : Nat} {s : WS} {i : Nat} (h : WsAt w b s) (hi : i < 32) (hev : s.ev ≤ 100000) :
    Calls Try.prog 57 #[.pointer (some ⟨b, 0, none⟩), .int .i64 (i : Int)] w fun e w' => e = .returned (.tuple #[]) ∧ WsAt w' b (endM s i) ∧ Fr [b] w w' := by
  obtain ⟨c1, -, -⟩ := h.src hi
  have f1 := h.frozen (i * 3)
  have H1 := hide (h.putA hi false)
  have hfr : Fr [b] w (w.setCell ⟨b, i * 3, none⟩ (.bool false)) := (Fr.refl _ _).set (.inl (by simp)) _
  clear h
  go_enter Try.func57, Try.ntmps57
  go_wp2_with fail
  refine (wrelease_any H1.out hi).mono ?_
  rintro e w1 ⟨rfl, h1, hfr1⟩
  obtain ⟨-, -, -, c4, -⟩ := h1.tl
  have f4 := h1.frozen 99
  have H2 := hide h1
  have c4' : w1.cell? ⟨b, 99, none⟩ = some (.int .i64 (s.ev : Int)) := c4
  have hwr : IntKind.i64.wrap ((s.ev : Int) + 1) = (s.ev : Int) + 1 := by simp [IntKind.wrap, IntKind.signed, IntKind.bits]; omega
  clear h1 H1 c1 f1 c4
  go_wp2
  go_end0
  exact ⟨rfl, H2.out.putEv (s.ev + 1), (hfr.trans hfr1).set (.inl (by simp)) _⟩
set_option maxHeartbeats 4000000 in
theorem wexists_any {w : World} {b : Nat} {s : WS} {i : Nat} (h : WsAt w b s) (hi : i < s.n) :
    Calls Try.prog 53 #[.pointer (some ⟨b, 0, none⟩), .int .i64 (i : Int)] w fun e w' => e = .returned (.bool true) ∧ w = w' := by
  obtain ⟨c0, -⟩ := h.tl
  have h1 : decide ((0 : Int) ≤ (i : Int)) = true := decide_eq_true (by omega)
  have h2 : decide ((i : Int) < (s.n : Int)) = true := decide_eq_true (by omega)
  clear h
  go_enter Try.func53, Try.ntmps53
  go_wp2
  go_ret
  exact ⟨rfl, rfl⟩
set_option maxHeartbeats 4000000 in
theorem wpermitted_any {w : World} {b : Nat} {s : WS} {now : Nat} (h : WsAt w b s) (hc : s.ck ≤ now) (hn : now ≤ 1152921504606846976) :
    Calls Try.prog 51 #[.pointer (some ⟨b, 0, none⟩), .int .u64 (now : Int)] w fun e w' => e = .returned (.bool true) ∧ w = w' := by
  obtain ⟨-, -, -, -, -, -, c0⟩ := h.tl
  have h1 : decide ((s.ck : Int) ≤ (now : Int)) = true := decide_eq_true (by omega)
  have h2 : decide ((now : Int) ≤ 1152921504606846976) = true := decide_eq_true (by omega)
  clear h
  go_enter Try.func51, Try.ntmps51
  go_wp2
  go_ret
  exact ⟨rfl, rfl⟩

def AdvRel (w : World) (b now : Nat) (s : WS) (N : Nat) (m : Nat) (v : Value) (wr : World) : Prop :=
  ∃ k : Nat, k ≤ N ∧ v = .int .i64 k ∧ WsAt wr b (advL now s k) ∧ Fr [b] w wr ∧ m = N - k
set_option maxHeartbeats 4000000 in
set_option maxRecDepth 100000 in
theorem wadvance_any {w : World} {b : Nat} {s : WS} {now : Nat} (h : WsAt w b s) (hn : s.n ≤ 32) (hev : s.ev ≤ 1000) :
    Calls Try.prog 52 #[.pointer (some ⟨b, 0, none⟩), .int .u64 (now : Int)] w fun e w' => e = .returned (.tuple #[]) ∧ WsAt w' b (advM now s) ∧ Fr [b] w w' := by
  obtain ⟨-, -, -, -, -, -, c0⟩ := h.tl
  have f0 := h.frozen 102
  have h1 := h.putCk now
  obtain ⟨c1, -⟩ := h1.tl
  have hfr : Fr [b] w (w.setCell ⟨b, 102, none⟩ (.int .u64 (now : Int))) := (Fr.refl _ _).set (.inl (by simp)) _
  obtain ⟨s0, hs0⟩ : ∃ s0 : WS, s0 = { s with ck := now } := ⟨_, rfl⟩
  have HR := hide (show advM now s = alM now (advL now s0 s0.n) by rw [hs0]; rfl)
  have hn0 : s0.n = s.n := by rw [hs0]
  have he0 : s0.ev = s.ev := by rw [hs0]
  rw [← hs0] at h1
  have H1 := hide h1
  have c1' : (w.setCell ⟨b, 102, none⟩ (.int .u64 (now : Int))).cell? ⟨b, 96, none⟩ = some (.int .i64 (s0.n : Int)) := by rw [hn0]; exact c1
  have hn' : s0.n ≤ 32 := by omega
  have hev' : s0.ev ≤ 1000 := by omega
  clear h h1 hs0 c1 hn0 he0 hn hev
  go_enter Try.func52, Try.ntmps52
  go_wp2
  go_loopg [14] s0.n (fun m v wr => AdvRel w b now s0 s0.n m v wr)
  case atStart => exact ⟨0, by omega, rfl, H1.out, hfr, rfl⟩
  case round =>
    obtain ⟨k, hk, rfl, hat, hfk, hmm⟩ := hrel
    have HM := hide hmm
    have hevk := advL_ev (now := now) (s := s0) k
    have HST := hide (advL_succ now s0 k)
    generalize hsk : advL now s0 k = sk at hat hevk HST
    have HSK := hide hsk
    have HAT := hide hat
    clear hmm H1 c0 f0 c1' hfr hat hsk
    by_cases hlt : k < s0.n
    · have hkl : (k : Int) < (s0.n : Int) := by omega
      obtain ⟨d0, d1, d2⟩ := HAT.out.src (i := k) (by omega)
      generalize hav : sk.a k = av at d0
      generalize hhv : sk.h k = hv at d1
      generalize htv : sk.t k = tv at d2
      have hbw : b ≠ wr.heap.size := by have := HAT.out.lt; omega
      have HA2 := hide ((HAT.out.fr0 ((Fr.refl [] wr).alloc (.cells #[.bool av, .bool hv, .int .u64 (tv : Int)] 85))))
      have hf2 : Fr [b] w (wr.alloc (.cells #[.bool av, .bool hv, .int .u64 (tv : Int)] 85)) := hfk.alloc _
      have hx := Blk.new wr 85 #[.bool av, .bool hv, .int .u64 (tv : Int)]
      have x0 := hx.cell 0
      have x1 := hx.cell 1
      have x2 := hx.cell 2
      simp only [List.getElem?_toArray, List.getElem?_cons_zero, List.getElem?_cons_succ] at x0 x1 x2
      have HST2 : Hid (advL now s0 (k + 1) = if av && hv && decide (tv ≤ now) then endM sk k else sk) := hide (by rw [HST.out]; unfold stepE; rw [hav, hhv, htv])
      clear hx hav hhv htv HST
      go_upto_region 5 with (fail)
      generalize wr.alloc (.cells #[.bool av, .bool hv, .int .u64 (tv : Int)] 85) = w2 at HA2 hf2 x0 x1 x2 ⊢
      by_cases hc : (av && hv && decide (tv ≤ now)) = true
      · have h3 : av = true ∧ hv = true ∧ tv ≤ now := by
          simp only [Bool.and_eq_true, decide_eq_true_eq] at hc
          exact ⟨hc.1.1, hc.1.2, hc.2⟩
        obtain ⟨rfl, rfl, hle⟩ := h3
        have b1 : decide ((tv : Int) ≤ (now : Int)) = true := decide_eq_true (by omega)
        have b1n : decide (tv ≤ now) = true := decide_eq_true (by omega)
        have HST3 : Hid (advL now s0 (k + 1) = endM sk k) := hide (by rw [HST2.out, if_pos hc])
        clear hc HST2
        go_wp2_with fail
        refine (wend_any HA2.out (by omega) (by omega)).mono ?_
        rintro e w3 ⟨rfl, h3, hf3⟩
        go_wp2
        go_roundg (s0.n - (k + 1))
        case measure => rw [HM.out]; omega
        case rel => exact ⟨k + 1, by omega, by go_num, by rw [HST3.out]; exact h3, hf2.trans hf3, rfl⟩
      · have HST3 : Hid (advL now s0 (k + 1) = sk) := hide (by rw [HST2.out, if_neg hc])
        have hcase : av = false ∨ (av = true ∧ hv = false) ∨ (av = true ∧ hv = true ∧ decide ((tv : Int) ≤ (now : Int)) = false) := by
          cases av
          · exact .inl rfl
          · cases hv
            · exact .inr (.inl ⟨rfl, rfl⟩)
            · refine .inr (.inr ⟨rfl, rfl, decide_eq_false ?_⟩)
              simp at hc
              omega
        clear hc HST2
        rcases hcase with rfl | ⟨rfl, rfl⟩ | ⟨rfl, rfl, b1⟩
        case' inr.inr => have b1n : decide (tv ≤ now) = false := by simpa using b1
        all_goals
          go_wp2
          go_roundg (s0.n - (k + 1))
          case measure => rw [HM.out]; omega
          case rel => exact ⟨k + 1, by omega, by go_num, by rw [HST3.out]; exact HA2.out, hf2, rfl⟩
    · have hke : k = s0.n := by omega
      subst hke
      have hkl : ¬ (s0.n : Int) < (s0.n : Int) := by omega
      obtain ⟨-, d1, d2, d3, -, -, -⟩ := HAT.out.tl
      have f1 := HAT.out.frozen 97
      have hfr1 : Fr [b] w (wr.setCell ⟨b, 97, none⟩ (.bool false)) := hfk.set (.inl (by simp)) _
      have h2 := HAT.out.putAl false
      obtain ⟨-, -, e2, e3, -, -, -⟩ := h2.tl
      have f2 := h2.frozen 98
      have h3 : WsAt ((wr.setCell ⟨b, 97, none⟩ (.bool false)).setCell ⟨b, 98, none⟩ (.int .u64 0)) b { sk with al := false, at_ := 0 } := h2.putAt 0
      obtain ⟨-, -, -, g3, -, -, -⟩ := h3.tl
      have f3 := h3.frozen 99
      have H3 := hide h3
      have HAM : Hid (advM now s = if sk.al && decide (sk.at_ ≤ now) then { sk with al := false, at_ := 0, ev := sk.ev + 1 } else sk) := hide (by rw [HR.out, HSK.out]; rfl)
      have hwr : IntKind.i64.wrap ((sk.ev : Int) + 1) = (sk.ev : Int) + 1 := by simp [IntKind.wrap, IntKind.signed, IntKind.bits]; omega
      simp only at e2 e3 g3
      generalize hav : sk.al = av at d1
      generalize htv : sk.at_ = tv at d2 e2
      rw [hav, htv] at HAM
      have HAV := hide hav
      have HTV := hide htv
      clear hav htv h2 h3
      by_cases hc : (av && decide (tv ≤ now)) = true
      · have h4 : av = true ∧ tv ≤ now := by simpa using hc
        obtain ⟨rfl, hle⟩ := h4
        have b1 : decide ((tv : Int) ≤ (now : Int)) = true := decide_eq_true (by omega)
        have b1n : decide (tv ≤ now) = true := decide_eq_true (by omega)
        have HAM3 := HAM.out
        rw [if_pos hc] at HAM3
        have HAM4 := hide HAM3
        clear hc HAM HAM3
        go_wp2
        go_end0
        refine ⟨rfl, ?_, ((hfr1.set (.inl (by simp)) _).set (.inl (by simp)) _)⟩
        rw [HAM4.out]
        exact H3.out.putEv (sk.ev + 1)
      · have hcase : av = false ∨ (av = true ∧ decide ((tv : Int) ≤ (now : Int)) = false) := by
          cases av
          · exact .inl rfl
          · refine .inr ⟨rfl, decide_eq_false ?_⟩
            simp at hc
            omega
        have HAM3 := HAM.out
        rw [if_neg hc] at HAM3
        have HAM4 := hide HAM3
        clear hc HAM HAM3
        rcases hcase with rfl | ⟨rfl, b1⟩
        case' inr => have b1n : decide (tv ≤ now) = false := by simpa using b1
        all_goals
          go_wp2
          go_end0
          exact ⟨rfl, by rw [HAM4.out]; exact HAT.out, hfk⟩
end Go.Proofs.Ytgbkgiglagfciaa
