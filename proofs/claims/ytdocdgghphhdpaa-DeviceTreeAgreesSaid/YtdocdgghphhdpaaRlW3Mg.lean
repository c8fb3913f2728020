/- Walks: rails.Rails: exists, permitted, Acquire, Release, Count, ReadyAt, Powered. -/
import Derived.Test.YtdocdgghphhdpaaRlW2Mg
namespace Go.Proofs.Ytdocdgghphhdpaa
open Go.RowKit

theorem RSt.wclk {P : RP} {R : Nat → RailD} {s : RSt} {f : Nat → Nat} (h : Own P.n R s f) (c : Nat) : Own P.n R { s with clk := c } f := fun j hj => by
  have h1 := h j hj
  have h2 := heldN_congr (R := R) (s := s) (s' := { s with clk := c }) (j := j) (fun i _ => Iff.rfl) P.n
  rw [← h2]
  exact h1
set_option maxHeartbeats 4000000 in
theorem rexists_any {w : World} {P : RP} {R : Nat → RailD} {s : RSt} (h : RlAt w P R s) (k : Int) :
    Calls Try.prog 107 #[.pointer (some ⟨P.b, 0, none⟩), .int .i64 k] w fun e w' => e = .returned (.bool (decide (0 ≤ k ∧ k < (P.n : Int)))) ∧ w = w' := by
  obtain ⟨c0, -, -, -⟩ := h.cells
  obtain ⟨B, hB⟩ : ∃ B, B = decide (0 ≤ k ∧ k < (P.n : Int)) := ⟨_, rfl⟩
  have HB := hide hB
  by_cases h0 : 0 ≤ k
  · have b0 : decide (0 ≤ k) = true := decide_eq_true h0
    by_cases h1 : k < (P.n : Int)
    · have b1 : decide (k < (P.n : Int)) = true := decide_eq_true h1
      have HB2 : Hid (B = true) := hide (by rw [hB]; simp [h0, h1])
      clear hB h
      go_enter Try.func107, Try.ntmps107
      go_wp2
      go_ret
      exact ⟨ret_bool (by first | rfl | rw [← HB.out, HB2.out]), rfl⟩
    · have b1 : decide (k < (P.n : Int)) = false := decide_eq_false h1
      have HB2 : Hid (B = false) := hide (by rw [hB]; simp [h1])
      clear hB h
      go_enter Try.func107, Try.ntmps107
      go_wp2
      go_ret
      exact ⟨ret_bool (by first | rfl | rw [← HB.out, HB2.out]), rfl⟩
  · have b0 : decide (0 ≤ k) = false := decide_eq_false h0
    have HB2 : Hid (B = false) := hide (by rw [hB]; simp [h0])
    clear hB h
    go_enter Try.func107, Try.ntmps107
    go_wp2
    go_ret
    exact ⟨ret_bool (by first | rfl | rw [← HB.out, HB2.out]), rfl⟩
set_option maxHeartbeats 4000000 in
theorem rpermitted_any {w : World} {P : RP} {R : Nat → RailD} {s : RSt} {k now : Nat} (h : RlAt w P R s) (hk : k < P.n) (hc : s.clk ≤ now) (hn : now ≤ 1152921504606846976) :
    Calls Try.prog 104 #[.pointer (some ⟨P.b, 0, none⟩), .int .i64 (k : Int), .int .u64 (now : Int)] w fun e w' => e = .returned (.bool true) ∧ w = w' := by
  obtain ⟨-, -, -, c3⟩ := h.cells
  have HAT := hide h
  have b1 : decide ((s.clk : Int) ≤ (now : Int)) = true := decide_eq_true (by omega)
  have b2 : decide ((now : Int) ≤ 1152921504606846976) = true := decide_eq_true (by omega)
  have b1n : decide (s.clk ≤ now) = true := decide_eq_true hc
  have hke : decide (0 ≤ (k : Int) ∧ (k : Int) < (P.n : Int)) = true := decide_eq_true ⟨by omega, by omega⟩
  have HKE := hide hke
  clear h hke
  go_enter Try.func104, Try.ntmps104
  go_wp2_with fail
  refine (rexists_any HAT.out (k : Int)).mono ?_
  rintro e w1 ⟨rfl, rfl⟩
  rw [HKE.out]
  go_wp2
  go_ret
  exact ⟨rfl, rfl⟩
def AcqRet (w : World) (P : RP) (R : Nat → RailD) (r : RSt × List ROp) (e : Ending) (w' : World) : Prop :=
  ∃ v, e = .returned (.tuple #[v, .int .i64 0]) ∧ RlAt w' P R r.1 ∧ w'.ownsRow w.heap.size 54 4 v r.2.length (ropcs r.2) ∧ Fr [P.b, P.gB, P.gC] w w'
set_option maxHeartbeats 4000000 in
set_option maxRecDepth 100000 in
theorem racquire_ok {w : World} {P : RP} {R : Nat → RailD} {s : RSt} {k now : Nat} {L : List Nat} (hch : Chn P.n R k L) (hL : L.length ≤ 1000) (h : RlAt w P R s) (hcn : ∀ j, j < P.n → s.cnt j ≤ 100000) (hc : s.clk ≤ now) (hn : now ≤ 1152921504606846976) :
    Calls Try.prog 62 #[.pointer (some ⟨P.b, 0, none⟩), .int .i64 (k : Int), .int .u64 (now : Int)] w (AcqRet w P R (addC R now k L { s with clk := now })) := by
  have hk := hch.lt
  obtain ⟨-, -, -, c3⟩ := h.cells
  have f3 := h.blk.frozen 3
  have HAT := hide h
  have HAT2 := hide (h.setClk now)
  have hfr : Fr [P.b] w (w.setCell ⟨P.b, 3, none⟩ (.int .u64 (now : Int))) := (Fr.refl _ _).set (.inl (by simp)) _
  have HFR := hide hfr
  have HLOW := hide h.lowAt
  have HCN := hide hcn
  have HCH := hide hch
  clear h hcn hfr hch
  go_enter Try.func62, Try.ntmps62
  go_wp2_with fail
  refine (rpermitted_any HAT.out hk hc hn).mono ?_
  rintro e w1 ⟨rfl, rfl⟩
  go_wp2_with fail
  have hsz : w.heap.size ≤ (w.setCell ⟨P.b, 3, none⟩ (.int .u64 (now : Int))).heap.size := HFR.out.size
  refine (radd_any (base := w.heap.size) HCH.out { s with clk := now } [] (.slice none 0 0) _ HAT2.out HCN.out HLOW.out hsz (own_nil _ _ _ _) (by simp; omega)).mono ?_
  rintro e w2 ⟨v, rfl, hat2, hown2, hfx2⟩
  obtain ⟨A2, cp2, rfl, -, -, -⟩ := own_slice hown2
  have HAT3 := hide hat2
  have HOWN := hide hown2
  have HFX := hide hfx2
  clear hat2 hown2 hfx2 c3 f3
  go_wp2
  go_ret2
  refine ⟨_, rfl, HAT3.out, HOWN.out, ?_⟩
  have h1 : FrX [P.b, P.gB, P.gC] w.heap.size w w2 := (FrX.trans ⟨[P.b], fun y hy => .inl (by simp at hy; simp [hy]), HFR.out⟩ (HFX.out.mono (fun y hy => by simp at hy ⊢; omega)))
  exact h1.fr (Nat.le_refl _)
def RlHeld (w : World) (P : RP) (R : Nat → RailD) (k : Nat) (s : RSt) (m : Nat) (v8 v21 : Value) (wr : World) : Prop :=
  ∃ i : Nat, i ≤ P.n ∧ v8 = .int .i64 (heldN R s k i : Int) ∧ v21 = .int .i64 (i : Int) ∧ Fr [] w wr ∧ m = P.n - i
theorem heldN_le (R : Nat → RailD) (s : RSt) (k : Nat) : ∀ i, heldN R s k i ≤ i
  | 0 => Nat.le_refl _
  | i + 1 => by
    have := heldN_le R s k i
    rw [heldN]
    split <;> omega
set_option maxHeartbeats 8000000 in
set_option maxRecDepth 100000 in
theorem rrelease_ok {w : World} {P : RP} {R : Nat → RailD} {s : RSt} {f : Nat → Nat} {k now : Nat} {L : List Nat} (hch : Chn P.n R k L) (hL : L.length ≤ 1000) (h : RlAt w P R s) (ho : Own P.n R s f) (hfk : 1 ≤ f k) (hcn : ∀ j, j < P.n → s.cnt j ≤ 100000) (hc : s.clk ≤ now) (hn : now ≤ 1152921504606846976) :
    Calls Try.prog 63 #[.pointer (some ⟨P.b, 0, none⟩), .int .i64 (k : Int), .int .u64 (now : Int)] w (AcqRet w P R (remC P.n R now k L { s with clk := now })) := by
  have hk := hch.lt
  have hn64 := h.n64
  have HAT := hide h
  have HCN := hide hcn
  have HCH := hide hch
  have HO := hide (RSt.wclk ho now)
  have hcf := ho k hk
  have HCF := hide hcf
  obtain ⟨c0, c1, -, -⟩ := h.cells
  obtain ⟨ob, oo, hA, -, -, -⟩ := h.rail hk
  have HA := hide hA
  rw [hA] at c0
  clear h hcn hch ho hcf hA
  go_enter Try.func63, Try.ntmps63
  go_wp2_with fail
  refine (rpermitted_any HAT.out hk hc hn).mono ?_
  rintro e w1 ⟨rfl, rfl⟩
  go_wp2
  go_loopg [8, 21] P.n (fun m v8 v21 wr => RlHeld w P R k s m v8 v21 wr)
  case atStart => exact ⟨0, by omega, rfl, rfl, Fr.refl _ _, rfl⟩
  case round =>
    obtain ⟨i, hi, rfl, rfl, hfi, hmm⟩ := hrel
    have HMM := hide hmm
    have HST := hide (show heldN R s k (i + 1) = heldN R s k i + (if (R i).sup = (k : Int) ∧ 0 < s.cnt i then 1 else 0) from rfl)
    have hle := heldN_le R s k i
    have HATI := hide (HAT.out.fr0 hfi)
    clear hmm c0 c1
    by_cases hin : i < P.n
    · have hii : (i : Int) < (P.n : Int) := by omega
      obtain ⟨ob', oo', hA', r0, r1, r2⟩ := HATI.out.rail hin
      rw [HA.out] at hA'
      injection hA' with hA'
      injection hA' with e1 e2
      subst e1 e2
      obtain ⟨c0, c1, -, -⟩ := HATI.out.cells
      rw [HA.out] at c0
      have g1 := HATI.out.cntAt hin
      generalize heldN R s k i = hd at HST hle ⊢
      generalize (R i).sup = sp at HST r0
      generalize (R i).up = u1 at r1
      generalize (R i).dn = u2 at r2
      generalize s.cnt i = ci at HST g1
      have hfa : Fr [] wr (wr.alloc (.cells #[.int .i64 sp, .int .u64 (u1 : Int), .int .u64 (u2 : Int)] 49)) := (Fr.refl _ _).alloc _
      have hxb := Blk.new wr 49 #[.int .i64 sp, .int .u64 (u1 : Int), .int .u64 (u2 : Int)]
      have x0 := hxb.cell 0
      simp only [List.getElem?_toArray, List.getElem?_cons_zero] at x0
      have g1' := hfa.cell g1 (by simp)
      have c1' := hfa.cell c1 (by simp)
      have hwr : IntKind.i64.wrap ((hd : Int) + 1) = (hd : Int) + 1 := by simp [IntKind.wrap, IntKind.signed, IntKind.bits]; omega
      clear hxb
      go_upto_region 7 with (fail)
      have hfi2 := hfi.call hfa
      clear c0 c1 g1 r0 r1 r2
      generalize wr.alloc (.cells #[.int .i64 sp, .int .u64 (u1 : Int), .int .u64 (u2 : Int)] 49) = w2 at hfi2 x0 g1' c1' ⊢
      clear hfa
      by_cases hsp : sp = (k : Int)
      · have hbq : (sp == (k : Int)) = true := by simp [hsp]
        by_cases hp : 0 < ci
        · have b1 : decide ((0 : Int) < (ci : Int)) = true := decide_eq_true (by omega)
          have b1n : decide (0 < ci) = true := decide_eq_true hp
          have HS2 : Hid (heldN R s k (i + 1) = hd + 1) := hide (by rw [HST.out, if_pos ⟨hsp, hp⟩])
          clear HST hsp hp
          go_wp2
          go_roundg (P.n - (i + 1))
          case measure => rw [HMM.out]; omega
          case rel => exact ⟨i + 1, by omega, by rw [HS2.out]; go_num, by go_num, hfi2, rfl⟩
        · have b1 : decide ((0 : Int) < (ci : Int)) = false := decide_eq_false (by omega)
          have b1n : decide (0 < ci) = false := decide_eq_false hp
          have HS2 : Hid (heldN R s k (i + 1) = hd) := hide (by rw [HST.out, if_neg (fun h => hp h.2)]; rfl)
          clear HST hsp hp
          go_wp2
          go_roundg (P.n - (i + 1))
          case measure => rw [HMM.out]; omega
          case rel => exact ⟨i + 1, by omega, by rw [HS2.out], by go_num, hfi2, rfl⟩
      · have hbq : (sp == (k : Int)) = false := by simp [hsp]
        have HS2 : Hid (heldN R s k (i + 1) = hd) := hide (by rw [HST.out, if_neg (fun h => hsp h.1)]; rfl)
        clear HST hsp
        go_wp2
        go_roundg (P.n - (i + 1))
        case measure => rw [HMM.out]; omega
        case rel => exact ⟨i + 1, by omega, by rw [HS2.out], by go_num, hfi2, rfl⟩
    · have hie : i = P.n := by omega
      subst hie
      have hii : ¬ (P.n : Int) < (P.n : Int) := by omega
      clear HST
      obtain ⟨c0, c1, -, c3⟩ := HATI.out.cells
      rw [HA.out] at c0
      have g1 := HATI.out.cntAt hk
      have f3 := HATI.out.blk.frozen 3
      have HAT2 := hide (HATI.out.setClk now)
      have hfr : Fr [P.b] wr (wr.setCell ⟨P.b, 3, none⟩ (.int .u64 (now : Int))) := (Fr.refl _ _).set (.inl (by simp)) _
      have HFR := hide hfr
      have HLOW := hide HATI.out.lowAt
      have hb0 : ¬ (s.cnt k : Int) ≤ (heldN R s k P.n : Int) := by have := HCF.out; omega
      have hb1 : decide ((s.cnt k : Int) ≤ (heldN R s k P.n : Int)) = false := decide_eq_false hb0
      have hb2 : decide (s.cnt k ≤ heldN R s k P.n) = false := decide_eq_false (by have := HCF.out; omega)
      clear hfr
      generalize heldN R s k P.n = hd at hle hb0 hb1 hb2 ⊢
      go_wp2_with fail
      have hsz : wr.heap.size ≤ (wr.setCell ⟨P.b, 3, none⟩ (.int .u64 (now : Int))).heap.size := HFR.out.size
      refine (rrem_any (base := wr.heap.size) HCH.out { s with clk := now } f [] (.slice none 0 0) _ HAT2.out HO.out hfk HCN.out HLOW.out hsz (own_nil _ _ _ _) (by simp; omega)).mono ?_
      rintro e w2 ⟨v, rfl, hat2, hown2, hfx2⟩
      obtain ⟨A2, cp2, rfl, -, -, -⟩ := own_slice hown2
      have HAT3 := hide hat2
      have HOWN := hide (own_base hown2 hfi.size)
      have HFX := hide hfx2
      clear hat2 hown2 hfx2 c0 c1 c3 f3 g1
      go_wp2
      go_ret2
      refine ⟨_, rfl, HAT3.out, HOWN.out, ?_⟩
      have h1 : FrX [P.b, P.gB, P.gC] wr.heap.size wr w2 := (FrX.trans ⟨[P.b], fun y hy => .inl (by simp at hy; simp [hy]), HFR.out⟩ (HFX.out.mono (fun y hy => by simp at hy ⊢; omega)))
      exact (hfi.mono (fun _ _ h => by cases h)).trans (h1.fr (Nat.le_refl _))
def cntI (P : RP) (s : RSt) (k : Int) : Nat := if 0 ≤ k ∧ k < (P.n : Int) then s.cnt k.toNat else 0
set_option maxHeartbeats 4000000 in
theorem rcount_any {w : World} {P : RP} {R : Nat → RailD} {s : RSt} (h : RlAt w P R s) (k : Int) :
    Calls Try.prog 64 #[.pointer (some ⟨P.b, 0, none⟩), .int .i64 k] w fun e w' => e = .returned (.int .i64 (cntI P s k : Int)) ∧ w = w' := by
  have HAT := hide h
  by_cases hk : 0 ≤ k ∧ k < (P.n : Int)
  · obtain ⟨q, rfl⟩ := Int.eq_ofNat_of_zero_le hk.1
    have hq : q < P.n := by omega
    obtain ⟨-, c1, -, -⟩ := h.cells
    have d0 := h.cntAt hq
    have hqi : (q : Int) < (P.n : Int) := by omega
    have HE : Hid (cntI P s (q : Int) = s.cnt q) := hide (by rw [cntI, if_pos hk, Int.toNat_natCast])
    have HB := hide (decide_eq_true hk)
    clear h hk
    go_enter Try.func64, Try.ntmps64
    go_wp2_with fail
    refine (rexists_any HAT.out (q : Int)).mono ?_
    rintro e w1 ⟨rfl, rfl⟩
    rw [HB.out]
    go_wp2
    go_ret
    exact ⟨by rw [HE.out]; rfl, rfl⟩
  · have HE : Hid (cntI P s k = 0) := hide (by rw [cntI, if_neg hk])
    have HB := hide (decide_eq_false hk)
    clear h hk
    go_enter Try.func64, Try.ntmps64
    go_wp2_with fail
    refine (rexists_any HAT.out k).mono ?_
    rintro e w1 ⟨rfl, rfl⟩
    rw [HB.out]
    go_wp2
    go_ret
    exact ⟨by rw [HE.out]; rfl, rfl⟩
def useI (P : RP) (s : RSt) (k : Int) : Bool := decide (0 ≤ k ∧ k < (P.n : Int)) && decide (s.cnt k.toNat ≠ 0)
def rdyI (P : RP) (s : RSt) (k : Int) : Nat := if useI P s k = true then s.dn k.toNat else 0
set_option maxHeartbeats 4000000 in
theorem rready_any {w : World} {P : RP} {R : Nat → RailD} {s : RSt} (h : RlAt w P R s) (k : Int) :
    Calls Try.prog 108 #[.pointer (some ⟨P.b, 0, none⟩), .int .i64 k] w fun e w' => e = .returned (.tuple #[.int .u64 (rdyI P s k : Int), .bool (useI P s k)]) ∧ w = w' := by
  have HAT := hide h
  by_cases hk : 0 ≤ k ∧ k < (P.n : Int)
  · obtain ⟨q, rfl⟩ := Int.eq_ofNat_of_zero_le hk.1
    have hq : q < P.n := by omega
    obtain ⟨-, c1, c2, -⟩ := h.cells
    have d0 := h.cntAt hq
    have d1 := h.dnAt hq
    have hqi : (q : Int) < (P.n : Int) := by omega
    have HB := hide (decide_eq_true hk)
    by_cases hz : s.cnt q = 0
    · have he : useI P s (q : Int) = false := by simp [useI, hz]
      have HE := hide he
      have HR : Hid (rdyI P s (q : Int) = 0) := hide (by rw [rdyI, he]; rfl)
      rw [hz] at d0
      have b0 : (((0 : Nat) : Int) == 0) = true := rfl
      clear h hk hz he
      go_enter Try.func108, Try.ntmps108
      go_wp2_with fail
      refine (rexists_any HAT.out (q : Int)).mono ?_
      rintro e w1 ⟨rfl, rfl⟩
      rw [HB.out]
      go_wp2
      go_ret2
      exact ⟨by rw [HE.out, HR.out]; rfl, rfl⟩
    · have he : useI P s (q : Int) = true := by simp [useI, hz, hk]
      have HE := hide he
      have HR : Hid (rdyI P s (q : Int) = s.dn q) := hide (by rw [rdyI, he, if_pos rfl, Int.toNat_natCast])
      have b0 : ((s.cnt q : Int) == 0) = false := beq_eq_false_iff_ne.2 (by omega)
      clear h hk hz he
      go_enter Try.func108, Try.ntmps108
      go_wp2_with fail
      refine (rexists_any HAT.out (q : Int)).mono ?_
      rintro e w1 ⟨rfl, rfl⟩
      rw [HB.out]
      go_wp2
      go_ret2
      exact ⟨by rw [HE.out, HR.out]; rfl, rfl⟩
  · have he : useI P s k = false := by simp [useI]; omega
    have HE := hide he
    have HR : Hid (rdyI P s k = 0) := hide (by rw [rdyI, he]; rfl)
    have HB := hide (decide_eq_false hk)
    clear h hk he
    go_enter Try.func108, Try.ntmps108
    go_wp2_with fail
    refine (rexists_any HAT.out k).mono ?_
    rintro e w1 ⟨rfl, rfl⟩
    rw [HB.out]
    go_wp2
    go_ret2
    exact ⟨by rw [HE.out, HR.out]; rfl, rfl⟩
def powI (P : RP) (s : RSt) (k : Int) (now : Nat) : Bool := useI P s k && decide (s.dn k.toNat ≤ now)
set_option maxHeartbeats 4000000 in
theorem rpowered_any {w : World} {P : RP} {R : Nat → RailD} {s : RSt} (h : RlAt w P R s) (k : Int) (now : Nat) :
    Calls Try.prog 65 #[.pointer (some ⟨P.b, 0, none⟩), .int .i64 k, .int .u64 (now : Int)] w fun e w' => e = .returned (.bool (powI P s k now)) ∧ w = w' := by
  have HAT := hide h
  have HP := hide (show powI P s k now = (useI P s k && decide (s.dn k.toNat ≤ now)) from rfl)
  clear h
  go_enter Try.func65, Try.ntmps65
  go_wp2_with fail
  refine (rready_any HAT.out k).mono ?_
  rintro e w1 ⟨rfl, rfl⟩
  have HRD := hide (show rdyI P s k = if useI P s k = true then s.dn k.toNat else 0 from rfl)
  generalize rdyI P s k = rd at HRD ⊢
  generalize useI P s k = u at HP HRD ⊢
  cases u
  · have HP2 : Hid (powI P s k now = false) := hide (by rw [HP.out]; rfl)
    go_wp2
    go_ret
    exact ⟨by rw [HP2.out]; rfl, rfl⟩
  · have hrd := HRD.out
    rw [if_pos rfl] at hrd
    rw [hrd]
    clear hrd HRD
    generalize s.dn k.toNat = d at HP ⊢
    by_cases hd : d ≤ now
    · have HP2 : Hid (powI P s k now = true) := hide (by rw [HP.out]; simp [hd])
      have b1 : decide ((d : Int) ≤ (now : Int)) = true := decide_eq_true (by omega)
      have b2 : decide (d ≤ now) = true := decide_eq_true hd
      clear hd
      go_wp2
      go_ret
      exact ⟨by rw [HP2.out]; rfl, rfl⟩
    · have HP2 : Hid (powI P s k now = false) := hide (by rw [HP.out]; simp; omega)
      have b1 : decide ((d : Int) ≤ (now : Int)) = false := decide_eq_false (by omega)
      have b2 : decide (d ≤ now) = false := decide_eq_false hd
      clear hd
      go_wp2
      go_ret
      exact ⟨by rw [HP2.out]; rfl, rfl⟩
end Go.Proofs.Ytdocdgghphhdpaa

