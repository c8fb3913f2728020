/- Walks: the reference's rails: bad, own, Acquire, Release, Count, Powered. -/
import Derived.Test.YtdocdgghphhdpaaRqW2Mg
import Derived.Test.YtdocdgghphhdpaaRlW3Mg
namespace Go.Proofs.Ytdocdgghphhdpaa
open Go.RowKit

set_option maxHeartbeats 4000000 in
theorem rqbad_any {w : World} {P : RP} {R : Nat → RailD} {s : RSt} {k now : Nat} (h : RqAt w P R s) (hk : k < P.n) (hc : s.clk ≤ now) (hn : now ≤ 1152921504606846976) :
    Calls Try.prog 113 #[.pointer (some ⟨P.b, 0, none⟩), .int .i64 (k : Int), .int .u64 (now : Int)] w fun e w' => e = .returned (.bool false) ∧ w = w' := by
  obtain ⟨c0, -, -, c3⟩ := h.cells
  have b0 : decide ((k : Int) < 0) = false := decide_eq_false (by omega)
  have b1 : decide ((P.n : Int) ≤ (k : Int)) = false := decide_eq_false (by omega)
  have b1n : decide (P.n ≤ k) = false := decide_eq_false (by omega)
  have b2 : decide ((now : Int) < (s.clk : Int)) = false := decide_eq_false (by omega)
  have b2n : decide (now < s.clk) = false := decide_eq_false (by omega)
  have b3 : decide ((1152921504606846976 : Int) < (now : Int)) = false := decide_eq_false (by omega)
  clear h
  go_enter Try.func113, Try.ntmps113
  go_wp2
  go_ret
  exact ⟨rfl, rfl⟩
def OqRel (w : World) (P : RP) (R : Nat → RailD) (k : Nat) (s : RSt) (m : Nat) (v5 v6 : Value) (wr : World) : Prop :=
  ∃ i u : Nat, i ≤ P.n ∧ v5 = .int .i64 (u : Int) ∧ u + heldN R s k i = s.cnt k ∧ v6 = .int .i64 (i : Int) ∧ w = wr ∧ m = P.n - i
theorem heldN_mono (R : Nat → RailD) (s : RSt) (k : Nat) {i : Nat} : ∀ {j}, i ≤ j → heldN R s k i ≤ heldN R s k j
  | 0, h => by rw [show i = 0 by omega]; exact Nat.le_refl _
  | j + 1, h => by
    by_cases e : i = j + 1
    · subst e; exact Nat.le_refl _
    · have := heldN_mono R s k (i := i) (j := j) (by omega)
      rw [heldN]
      split <;> omega
set_option maxHeartbeats 8000000 in
set_option maxRecDepth 100000 in
theorem rqown_any {w : World} {P : RP} {R : Nat → RailD} {s : RSt} {f : Nat → Nat} {k : Nat} (h : RqAt w P R s) (hk : k < P.n) (ho : Own P.n R s f) (hcn : s.cnt k ≤ 100000) :
    Calls Try.prog 115 #[.pointer (some ⟨P.b, 0, none⟩), .int .i64 (k : Int)] w fun e w' => e = .returned (.int .i64 (f k : Int)) ∧ w = w' := by
  have hn64 := h.n64
  have HAT := hide h
  have hcf := ho k hk
  have HCF := hide hcf
  obtain ⟨c0, c1, -, -⟩ := h.cells
  have d0 := h.cntAt hk
  have hki : (k : Int) < (P.n : Int) := by omega
  obtain ⟨ob, oo, hA, -, -, -⟩ := h.rail hk
  have HA := hide hA
  rw [hA] at c0
  clear h ho hcf hA
  go_enter Try.func115, Try.ntmps115
  go_wp2
  go_loopg [5, 6] P.n (fun m v5 v6 wr => OqRel w P R k s m v5 v6 wr)
  case atStart => exact ⟨0, s.cnt k, by omega, rfl, rfl, rfl, rfl, rfl⟩
  case round =>
    obtain ⟨i, u, hi, rfl, hu, rfl, rfl, hmm⟩ := hrel
    have HMM := hide hmm
    have HU := hide hu
    have HST := hide (show heldN R s k (i + 1) = heldN R s k i + (if (R i).sup = (k : Int) ∧ 0 < s.cnt i then 1 else 0) from rfl)
    have hub : u ≤ 100000 := by omega
    clear hmm hu c0 c1 d0
    obtain ⟨c0, c1, -, -⟩ := HAT.out.cells
    rw [HA.out] at c0
    by_cases hin : i < P.n
    · have hii : (i : Int) < (P.n : Int) := by omega
      have hmono := heldN_mono R s k (i := i + 1) (j := P.n) (by omega)
      have HMO := hide hmono
      obtain ⟨ob', oo', hA', r0, r1, r2⟩ := HAT.out.rail hin
      rw [HA.out] at hA'
      injection hA' with hA'
      injection hA' with e1 e2
      subst e1 e2
      have g1 := HAT.out.cntAt hin
      generalize (R i).sup = sp at HST r0
      generalize s.cnt i = ci at HST g1
      clear r1 r2 hmono
      by_cases hsp : sp = (k : Int)
      · have hbq : (sp == (k : Int)) = true := by simp [hsp]
        by_cases hp : 0 < ci
        · have b1 : decide ((0 : Int) < (ci : Int)) = true := decide_eq_true (by omega)
          have b1n : decide (0 < ci) = true := decide_eq_true hp
          have hst := HST.out
          rw [if_pos ⟨hsp, hp⟩] at hst
          obtain ⟨u1, hu1⟩ : ∃ u1, u1 = u - 1 := ⟨_, rfl⟩
          have hpos : 1 ≤ u := by
            have h1 := HCF.out
            have h2 := HU.out
            have h3 := HMO.out
            omega
          have hsub : (u : Int) - 1 = (u1 : Int) := by omega
          have hwr : IntKind.i64.wrap (u1 : Int) = (u1 : Int) := by simp [IntKind.wrap, IntKind.signed, IntKind.bits]; omega
          have HS2 : Hid (u1 + heldN R s k (i + 1) = s.cnt k) := hide (by have := HU.out; omega)
          clear hsp hp hst hu1 HST
          go_wp2
          go_roundg (P.n - (i + 1))
          case measure => rw [HMM.out]; omega
          case rel => exact ⟨i + 1, u1, by omega, rfl, HS2.out, by go_num, rfl, rfl⟩
        · have b1 : decide ((0 : Int) < (ci : Int)) = false := decide_eq_false (by omega)
          have b1n : decide (0 < ci) = false := decide_eq_false hp
          have HS2 : Hid (u + heldN R s k (i + 1) = s.cnt k) := hide (by rw [HST.out, if_neg (fun h => hp h.2)]; exact HU.out)
          clear hsp hp HST
          go_wp2
          go_roundg (P.n - (i + 1))
          case measure => rw [HMM.out]; omega
          case rel => exact ⟨i + 1, u, by omega, rfl, HS2.out, by go_num, rfl, rfl⟩
      · have hbq : (sp == (k : Int)) = false := by simp [hsp]
        have HS2 : Hid (u + heldN R s k (i + 1) = s.cnt k) := hide (by rw [HST.out, if_neg (fun h => hsp h.1)]; exact HU.out)
        clear hsp HST
        go_wp2
        go_roundg (P.n - (i + 1))
        case measure => rw [HMM.out]; omega
        case rel => exact ⟨i + 1, u, by omega, rfl, HS2.out, by go_num, rfl, rfl⟩
    · have hie : i = P.n := by omega
      subst hie
      have hii : ¬ (P.n : Int) < (P.n : Int) := by omega
      have HE : Hid ((u : Int) = (f k : Int)) := hide (by have h1 := HU.out; have h2 := HCF.out; omega)
      clear HST
      go_wp2
      go_ret
      exact ⟨ret_int HE.out, rfl⟩
def AcqqRet (w : World) (P : RP) (R : Nat → RailD) (r : RSt × List ROp) (e : Ending) (w' : World) : Prop :=
  ∃ v, e = .returned (.tuple #[v, .int .i64 0]) ∧ RqAt w' P R r.1 ∧ w'.ownsRow w.heap.size 54 4 v r.2.length (ropcs r.2) ∧ Fr [P.b, P.gB, P.gC] w w'
set_option maxHeartbeats 4000000 in
set_option maxRecDepth 100000 in
theorem rqacquire_ok {w : World} {P : RP} {R : Nat → RailD} {s : RSt} {k now : Nat} {L : List Nat} (hch : Chn P.n R k L) (hL : L.length ≤ 1000) (h : RqAt w P R s) (hcn : ∀ j, j < P.n → s.cnt j ≤ 90000) (hc : s.clk ≤ now) (hn : now ≤ 1152921504606846976) :
    Calls Try.prog 69 #[.pointer (some ⟨P.b, 0, none⟩), .int .i64 (k : Int), .int .u64 (now : Int)] w (AcqqRet w P R (addC R now k L { s with clk := now })) := by
  have hk := hch.lt
  obtain ⟨-, -, -, c3⟩ := h.cells
  have f3 := h.blk.frozen 3
  have HAT := hide h
  have HAT2 := hide (h.setClk now)
  have hfr : Fr [P.b] w (w.setCell ⟨P.b, 3, none⟩ (.int .u64 (now : Int))) := (Fr.refl _ _).set (.inl (by simp)) _
  have HFR := hide hfr
  have HLOW := hide h.lowAt
  have HCN := hide hcn
  have HCH := hide hch
  clear h hcn hfr hch
  go_enter Try.func69, Try.ntmps69
  go_wp2_with fail
  refine (rqbad_any HAT.out hk hc hn).mono ?_
  rintro e w1 ⟨rfl, rfl⟩
  go_wp2_with fail
  have hsz : w.heap.size ≤ (w.setCell ⟨P.b, 3, none⟩ (.int .u64 (now : Int))).heap.size := HFR.out.size
  refine (rqadd_any (base := w.heap.size) HCH.out { s with clk := now } [] (.slice none 0 0) _ HAT2.out (fun j hj => by have := HCN.out j hj; show s.cnt j + _ ≤ _; omega) HLOW.out hsz (own_nil _ _ _ _) (by simp; omega)).mono ?_
  rintro e w2 ⟨v, rfl, hat2, hown2, hfx2⟩
  obtain ⟨A2, cp2, rfl, -, -, -⟩ := own_slice hown2
  have HAT3 := hide hat2
  have HOWN := hide hown2
  have HFX := hide hfx2
  clear hat2 hown2 hfx2 c3 f3
  go_wp2
  go_ret2
  refine ⟨_, rfl, HAT3.out, HOWN.out, ?_⟩
  have h1 : FrX [P.b, P.gB, P.gC] w.heap.size w w2 := (FrX.trans ⟨[P.b], fun y hy => .inl (by simp at hy; simp [hy]), HFR.out⟩ (HFX.out.mono (fun y hy => by simp at hy ⊢; omega)))
  exact h1.fr (Nat.le_refl _)
set_option maxHeartbeats 8000000 in
set_option maxRecDepth 100000 in
theorem rqrelease_ok {w : World} {P : RP} {R : Nat → RailD} {s : RSt} {f : Nat → Nat} {k now : Nat} {L : List Nat} (hch : Chn P.n R k L) (hL : L.length ≤ 1000) (h : RqAt w P R s) (ho : Own P.n R s f) (hfk : 1 ≤ f k) (hcn : ∀ j, j < P.n → s.cnt j ≤ 100000) (hc : s.clk ≤ now) (hn : now ≤ 1152921504606846976) :
    Calls Try.prog 70 #[.pointer (some ⟨P.b, 0, none⟩), .int .i64 (k : Int), .int .u64 (now : Int)] w (AcqqRet w P R (remC P.n R now k L { s with clk := now })) := by
  have hk := hch.lt
  obtain ⟨-, -, -, c3⟩ := h.cells
  have f3 := h.blk.frozen 3
  have HAT := hide h
  have HAT2 := hide (h.setClk now)
  have hfr : Fr [P.b] w (w.setCell ⟨P.b, 3, none⟩ (.int .u64 (now : Int))) := (Fr.refl _ _).set (.inl (by simp)) _
  have HFR := hide hfr
  have HLOW := hide h.lowAt
  have HCN := hide hcn
  have HCH := hide hch
  have HO := hide ho
  have HO2 := hide (RSt.wclk ho now)
  have b0 : ((f k : Int) == 0) = false := beq_eq_false_iff_ne.2 (by omega)
  have hck := hcn k hk
  clear h hcn hfr hch ho
  go_enter Try.func70, Try.ntmps70
  go_wp2_with fail
  refine (rqbad_any HAT.out hk hc hn).mono ?_
  rintro e w1 ⟨rfl, rfl⟩
  go_wp2_with fail
  refine (rqown_any HAT.out hk HO.out hck).mono ?_
  rintro e w1 ⟨rfl, rfl⟩
  go_wp2_with fail
  have hsz : w.heap.size ≤ (w.setCell ⟨P.b, 3, none⟩ (.int .u64 (now : Int))).heap.size := HFR.out.size
  refine (rqdrop_any (base := w.heap.size) HCH.out { s with clk := now } f [] (.slice none 0 0) _ HAT2.out HO2.out hfk HCN.out HLOW.out hsz (own_nil _ _ _ _) (by simp; omega)).mono ?_
  rintro e w2 ⟨v, rfl, hat2, hown2, hfx2⟩
  obtain ⟨A2, cp2, rfl, -, -, -⟩ := own_slice hown2
  have HAT3 := hide hat2
  have HOWN := hide hown2
  have HFX := hide hfx2
  clear hat2 hown2 hfx2 c3 f3
  go_wp2
  go_ret2
  refine ⟨_, rfl, HAT3.out, HOWN.out, ?_⟩
  have h1 : FrX [P.b, P.gB, P.gC] w.heap.size w w2 := (FrX.trans ⟨[P.b], fun y hy => .inl (by simp at hy; simp [hy]), HFR.out⟩ (HFX.out.mono (fun y hy => by simp at hy ⊢; omega)))
  exact h1.fr (Nat.le_refl _)
set_option maxHeartbeats 4000000 in
theorem rqcount_any {w : World} {P : RP} {R : Nat → RailD} {s : RSt} (h : RqAt w P R s) (k : Int) :
    Calls Try.prog 30 #[.pointer (some ⟨P.b, 0, none⟩), .int .i64 k] w fun e w' => e = .returned (.int .i64 (cntI P s k : Int)) ∧ w = w' := by
  obtain ⟨c0, c1, -, -⟩ := h.cells
  by_cases h0 : k < 0
  · have HE : Hid (cntI P s k = 0) := hide (by rw [cntI, if_neg (by omega)])
    have b0 : decide (k < 0) = true := decide_eq_true h0
    clear h h0
    go_enter Try.func30, Try.ntmps30
    go_wp2
    go_ret
    exact ⟨by rw [HE.out]; rfl, rfl⟩
  have b0 : decide (k < 0) = false := decide_eq_false h0
  obtain ⟨q, rfl⟩ := Int.eq_ofNat_of_zero_le (show 0 ≤ k by omega)
  by_cases hq : q < P.n
  · have d0 := h.cntAt hq
    have hqi : (q : Int) < (P.n : Int) := by omega
    have b1 : decide ((P.n : Int) ≤ (q : Int)) = false := decide_eq_false (by omega)
    have b1n : decide (P.n ≤ q) = false := decide_eq_false (by omega)
    have HE : Hid (cntI P s (q : Int) = s.cnt q) := hide (by rw [cntI, if_pos ⟨by omega, hqi⟩, Int.toNat_natCast])
    clear h h0 hq
    go_enter Try.func30, Try.ntmps30
    go_wp2
    go_ret
    exact ⟨by rw [HE.out]; rfl, rfl⟩
  · have b1 : decide ((P.n : Int) ≤ (q : Int)) = true := decide_eq_true (by omega)
    have b1n : decide (P.n ≤ q) = true := decide_eq_true (by omega)
    have HE : Hid (cntI P s (q : Int) = 0) := hide (by rw [cntI, if_neg (by omega)])
    clear h h0 hq
    go_enter Try.func30, Try.ntmps30
    go_wp2
    go_ret
    exact ⟨by rw [HE.out]; rfl, rfl⟩
set_option maxHeartbeats 4000000 in
theorem rqpowered_any {w : World} {P : RP} {R : Nat → RailD} {s : RSt} (h : RqAt w P R s) (k : Int) (now : Nat) :
    Calls Try.prog 71 #[.pointer (some ⟨P.b, 0, none⟩), .int .i64 k, .int .u64 (now : Int)] w fun e w' => e = .returned (.bool (powI P s k now)) ∧ w = w' := by
  have HAT := hide h
  by_cases hk : 0 ≤ k ∧ k < (P.n : Int)
  · obtain ⟨q, rfl⟩ := Int.eq_ofNat_of_zero_le hk.1
    have hq : q < P.n := by omega
    obtain ⟨-, -, c2, -⟩ := h.cells
    have d1 := h.dnAt hq
    have hqi : (q : Int) < (P.n : Int) := by omega
    have HC : Hid (cntI P s (q : Int) = s.cnt q) := hide (by rw [cntI, if_pos hk, Int.toNat_natCast])
    have HP : Hid (powI P s (q : Int) now = (decide (0 < s.cnt q) && decide (s.dn q ≤ now))) := hide (by
      unfold powI useI
      rw [decide_eq_true hk, Int.toNat_natCast, Bool.true_and]
      congr 1
      exact decide_eq_decide.2 (by omega))
    clear h hk
    generalize s.cnt q = c at HC HP
    generalize s.dn q = d at d1 HP
    by_cases hc : 0 < c
    · have b1 : decide ((0 : Int) < (c : Int)) = true := decide_eq_true (by omega)
      have b1n : decide (0 < c) = true := decide_eq_true hc
      by_cases hd : d ≤ now
      · have b2 : decide ((d : Int) ≤ (now : Int)) = true := decide_eq_true (by omega)
        have b2n : decide (d ≤ now) = true := decide_eq_true hd
        have HE : Hid (powI P s (q : Int) now = true) := hide (by rw [HP.out, b1n, b2n]; rfl)
        clear hc hd
        go_enter Try.func71, Try.ntmps71
        go_wp2_with fail
        refine (rqcount_any HAT.out (q : Int)).mono ?_
        rintro e w1 ⟨rfl, rfl⟩
        rw [HC.out]
        go_wp2
        go_ret
        exact ⟨by rw [HE.out]; rfl, rfl⟩
      · have b2 : decide ((d : Int) ≤ (now : Int)) = false := decide_eq_false (by omega)
        have b2n : decide (d ≤ now) = false := decide_eq_false hd
        have HE : Hid (powI P s (q : Int) now = false) := hide (by rw [HP.out, b2n, Bool.and_false])
        clear hc hd
        go_enter Try.func71, Try.ntmps71
        go_wp2_with fail
        refine (rqcount_any HAT.out (q : Int)).mono ?_
        rintro e w1 ⟨rfl, rfl⟩
        rw [HC.out]
        go_wp2
        go_ret
        exact ⟨by rw [HE.out]; rfl, rfl⟩
    · have b1 : decide ((0 : Int) < (c : Int)) = false := decide_eq_false (by omega)
      have b1n : decide (0 < c) = false := decide_eq_false hc
      have HE : Hid (powI P s (q : Int) now = false) := hide (by rw [HP.out, b1n, Bool.false_and])
      clear hc
      go_enter Try.func71, Try.ntmps71
      go_wp2_with fail
      refine (rqcount_any HAT.out (q : Int)).mono ?_
      rintro e w1 ⟨rfl, rfl⟩
      rw [HC.out]
      go_wp2
      go_ret
      exact ⟨by rw [HE.out]; rfl, rfl⟩
  · have HC : Hid (cntI P s k = 0) := hide (by rw [cntI, if_neg hk])
    have HE : Hid (powI P s k now = false) := hide (by unfold powI useI; rw [decide_eq_false hk]; rfl)
    clear h hk
    go_enter Try.func71, Try.ntmps71
    go_wp2_with fail
    refine (rqcount_any HAT.out k).mono ?_
    rintro e w1 ⟨rfl, rfl⟩
    rw [HC.out]
    go_wp2
    go_ret
    exact ⟨by rw [HE.out]; rfl, rfl⟩
end Go.Proofs.Ytdocdgghphhdpaa

