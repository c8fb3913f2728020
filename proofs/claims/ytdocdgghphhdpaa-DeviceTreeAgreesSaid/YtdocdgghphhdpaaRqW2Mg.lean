/- Walks: the reference's rails: drop (by induction on the chain of supplies). -/
import Derived.Test.YtdocdgghphhdpaaRqW1Mg
import Derived.Test.YtdocdgghphhdpaaRlW2Mg
namespace Go.Proofs.Ytdocdgghphhdpaa
open Go.RowKit

def DqRel (w : World) (P : RP) (R : Nat → RailD) (k now : Nat) (s : RSt) (m : Nat) (v9 v10 : Value) (wr : World) : Prop :=
  ∃ i : Nat, i ≤ P.n ∧ v9 = .int .u64 (startD R k now s i : Int) ∧ v10 = .int .i64 (i : Int) ∧ w = wr ∧ m = P.n - i
set_option maxHeartbeats 8000000 in
set_option maxRecDepth 100000 in
theorem rqdrop_any {base : Nat} {P : RP} {R : Nat → RailD} {now k : Nat} {L : List Nat} (hc : Chn P.n R k L) : ∀ (s : RSt) (f : Nat → Nat) (ops : List ROp) (v : Value) (w : World), RqAt w P R s → Own P.n R s f → 1 ≤ f k → (∀ j, j < P.n → s.cnt j ≤ 100000) → RlLow P base → base ≤ w.heap.size → w.ownsRow base 54 4 v ops.length (ropcs ops) → ops.length + L.length ≤ 2000 →
    Calls Try.prog 116 #[.pointer (some ⟨P.b, 0, none⟩), v, .int .i64 (k : Int), .int .u64 (now : Int)] w (AqRet base w P R ops (remC P.n R now k L s)) := by
  obtain ⟨i0, hi0, hz0, hz1, hz2⟩ := info_parts rop_info
  have HI := hide (And.intro hi0 (And.intro hz0 (And.intro hz1 hz2)))
  clear hi0 hz0 hz1 hz2
  induction hc with
  | @root k hk hs =>
    intro s f ops v w hat hof hfk hcn hlow hbase hown hlen
    obtain ⟨A0, cp0, rfl, -, -, -⟩ := own_slice hown
    have hpos : 1 ≤ s.cnt k := by have := hof k hk; omega
    have HOF := hide hof
    have HCN := hide hcn
    have HLOW := hide hlow
    have HSUP := hide hs
    obtain ⟨c0, c1, c2, c3⟩ := hat.cells
    have d0 := hat.cntAt hk
    have f0 := hat.cnt.frozen k
    have hki : (k : Int) < (P.n : Int) := by omega
    have hn64 := hat.n64
    have hck := hcn k hk
    obtain ⟨c, hcc⟩ : ∃ c, c = s.cnt k - 1 := ⟨_, rfl⟩
    have hci : (s.cnt k : Int) - 1 = (c : Int) := by omega
    have hcw : IntKind.i64.wrap (c : Int) = (c : Int) := by simp [IntKind.wrap, IntKind.signed, IntKind.bits]; omega
    have HAT1 := hide (show RqAt (w.setCell ⟨P.gB, k, none⟩ (.int .i64 (c : Int))) P R (decR k s) from by rw [hcc]; exact hat.setCnt k (s.cnt k - 1))
    have hfr1 : Fr [P.gB] w (w.setCell ⟨P.gB, k, none⟩ (.int .i64 (c : Int))) := (Fr.refl _ _).set (.inl (by simp)) _
    have HO1 := hide (own_fr hown hfr1 (own_above hown hlow.2.1))
    have HFX1 := hide (show FrX [P.gB, P.gC] base w (w.setCell ⟨P.gB, k, none⟩ (.int .i64 (c : Int))) from (FrX.refl _ _ _).set (by simp) _)
    have HCC := hide hcc
    have HD := hide (show remC P.n R now k [] s = if 1 < s.cnt k then (decR k s, []) else (remS P.n R now k s, [remO P.n R now k s]) from by rw [remC])
    clear hat hof hcn hlow hown hs hfr1 hcc
    go_enter Try.func116, Try.ntmps116
    go_upto_region 2 with (fail)
    clear c0 c1 c2 c3 d0 f0 hci hcw
    generalize w.setCell ⟨P.gB, k, none⟩ (.int .i64 (c : Int)) = w1 at HAT1 HO1 HFX1 ⊢
    obtain ⟨c0, c1, c2, c3⟩ := HAT1.out.cells
    have d0 : w1.cell? ⟨P.gB, k, none⟩ = some (.int .i64 (c : Int)) := by
      have h := HAT1.out.cntAt hk
      simp only [decR, rup_same] at h
      rw [HCC.out]; exact h
    have d1 : w1.cell? ⟨P.gC, k, none⟩ = some (.int .u64 (s.dn k : Int)) := HAT1.out.dnAt hk
    by_cases hz : 1 < s.cnt k
    · have HD2 := HD.out
      rw [if_pos hz] at HD2
      have HD3 := hide HD2
      have hb : decide ((0 : Int) < (c : Int)) = true := decide_eq_true (by have := HCC.out; omega)
      have hbn : decide (0 < c) = true := decide_eq_true (by have := HCC.out; omega)
      have hb0 : (0 : Int) < (c : Int) := by have := HCC.out; omega
      clear HD HD2 hz
      go_wp2
      go_ret
      refine ⟨_, rfl, ?_, ?_, ?_⟩
      · rw [HD3.out]; exact HAT1.out
      · rw [HD3.out, List.append_nil]; exact HO1.out
      · exact HFX1.out
    · have HD2 := HD.out
      rw [if_neg hz] at HD2
      have HD3 := hide HD2
      have hb : decide ((0 : Int) < (c : Int)) = false := decide_eq_false (by have := HCC.out; omega)
      have hbn : decide (0 < c) = false := decide_eq_false (by have := HCC.out; omega)
      have hb0 : ¬ (0 : Int) < (c : Int) := by have := HCC.out; omega
      have HZ := hide hz
      obtain ⟨m0, hm0⟩ : ∃ m0, m0 = max now (s.dn k) := ⟨_, rfl⟩
      have HM0 := hide hm0
      clear HD HD2 hz hm0
      go_wp2_with fail
      refine (later25_any now (s.dn k) m0 HM0.out w1).mono ?_
      rintro e w1' ⟨rfl, rfl⟩
      clear hb hbn hb0
      obtain ⟨ob, oo, hA, -, -, -⟩ := HAT1.out.rail hk
      have HA := hide hA
      rw [hA] at c0
      clear hA
      go_wp2
      go_loopg [9, 10] P.n (fun m v9 v10 wr => DqRel w1 P R k now s m v9 v10 wr)
      case atStart => exact ⟨0, by omega, by rw [startD, HM0.out], rfl, rfl, rfl⟩
      case round =>
        obtain ⟨i, hi, rfl, rfl, rfl, hmm⟩ := hrel
        have HMM := hide hmm
        have HST := hide (show startD R k now s (i + 1) = if (R i).sup = (k : Int) then max (startD R k now s i) (s.dn i) else startD R k now s i from rfl)
        clear hmm c0 c1 c2 c3 d0 d1
        by_cases hin : i < P.n
        · have hii : (i : Int) < (P.n : Int) := by omega
          obtain ⟨ob', oo', hA', r0, r1, r2⟩ := HAT1.out.rail hin
          rw [HA.out] at hA'
          injection hA' with hA'
          injection hA' with e1 e2
          subst e1 e2
          obtain ⟨c0, c1, c2, c3⟩ := HAT1.out.cells
          have g1 : w1.cell? ⟨P.gC, i, none⟩ = some (.int .u64 (s.dn i : Int)) := HAT1.out.dnAt hin
          generalize hsi : startD R k now s i = si at HST ⊢
          rw [HA.out] at c0
          generalize (R i).sup = sp at HST r0
          generalize s.dn i = di at HST g1
          clear hsi r1 r2
          by_cases hsp : sp = (k : Int)
          · have hbq : (sp == (k : Int)) = true := by simp [hsp]
            have HST2 := HST.out
            rw [if_pos hsp] at HST2
            have HS3 := hide HST2
            clear HST HST2 hsp
            go_wp2_with fail
            obtain ⟨sj, hsj⟩ : ∃ sj, sj = startD R k now s (i + 1) := ⟨_, rfl⟩
            have HSJ := hide hsj
            refine (later25_any si di sj (hsj.trans HS3.out) w1).mono ?_
            rintro e w1' ⟨rfl, rfl⟩
            clear hsj
            go_wp2
            go_roundg (P.n - (i + 1))
            case measure => rw [HMM.out]; omega
            case rel => exact ⟨i + 1, by omega, by rw [HSJ.out], by go_num, rfl, rfl⟩
          · have hbq : (sp == (k : Int)) = false := by simp [hsp]
            have HST2 := HST.out
            rw [if_neg hsp] at HST2
            have HS3 := hide HST2
            clear HST HST2 hsp
            go_wp2
            go_roundg (P.n - (i + 1))
            case measure => rw [HMM.out]; omega
            case rel => exact ⟨i + 1, by omega, by rw [HS3.out], by go_num, rfl, rfl⟩
        · have hie : i = P.n := by omega
          subst hie
          have hii : ¬ (P.n : Int) < (P.n : Int) := by omega
          clear HST
          obtain ⟨ob', oo', hA', r0, -, r2⟩ := HAT1.out.rail hk
          rw [HA.out] at hA'
          injection hA' with hA'
          injection hA' with e1 e2
          subst e1 e2
          obtain ⟨c0, c1, c2, c3⟩ := HAT1.out.cells
          rw [HA.out] at c0
          have d1 : w1.cell? ⟨P.gC, k, none⟩ = some (.int .u64 (s.dn k : Int)) := HAT1.out.dnAt hk
          have fd := HAT1.out.dn.frozen k
          obtain ⟨st, hst⟩ : ∃ st, st = startD R k now s P.n := ⟨_, rfl⟩
          rw [← hst]
          obtain ⟨d, hd⟩ : ∃ d, d = (st + (R k).dn) % W64 := ⟨_, rfl⟩
          have hwr : IntKind.u64.wrap ((st : Int) + ((R k).dn : Int)) = (d : Int) := by rw [IntKind.wrap_u64, hd]; unfold W64; omega
          have HRS : Hid (remS P.n R now k s = { decR k s with dn := rup s.dn k d }) := hide (by rw [hd, hst]; rfl)
          have HRO : Hid (remO P.n R now k s = ⟨k, false, st, d⟩) := hide (by rw [hd, hst]; rfl)
          have hof2 := HOF.out.off (now := now) hk HZ.out hfk
          have HOF2 := hide hof2
          have HAT2 := hide ((HAT1.out.setDn k d).fr0 (Fr.refl [] _).drew)
          have hfr2 : Fr [P.gC] w1 (w1.setCell ⟨P.gC, k, none⟩ (.int .u64 (d : Int))).drew := ((Fr.refl _ _).set (.inl (by simp)) _).drew
          have HO3 := hide (own_fr HO1.out hfr2 (own_above HO1.out HLOW.out.2.2.1))
          have HFX2 := hide (HFX1.out.trans (⟨[P.gC], fun y hy => .inl (by simp at hy; simp [hy]), hfr2⟩ : FrX [P.gB, P.gC] base w1 _))
          generalize (R k).dn = u at r2 hwr
          clear hd hst hfr2 hof2
          go_upto_region 10 with (fail)
          go_still_tail 16, (by kernel_rfl)
          repeat still_step
          go_upto_region 11 with (fail)
          clear c0 c1 c2 c3 d1 fd r0 r2
          generalize (w1.setCell ⟨P.gC, k, none⟩ (.int .u64 (d : Int))).drew = w2 at HAT2 HO3 HFX2 ⊢
          have hat2 := HAT2.out
          rw [show ({ decR k s with dn := rup (decR k s).dn k d } : RSt) = remS P.n R now k s from by rw [HRS.out]; rfl] at hat2
          have HAT3 := hide hat2
          clear hat2 HAT2
          obtain ⟨c0', c1', c2', c3'⟩ := HAT3.out.cells
          have d1' : w2.cell? ⟨P.gC, k, none⟩ = some (.int .u64 (d : Int)) := by
            have h := HAT3.out.dnAt hk
            rw [HRS.out] at h
            simp only [rup_same] at h
            exact h
          have hs2 : base ≤ w2.heap.size + 1 := by have := HFX2.out.size; omega
          go_upto_region 12 with (first
            | (at_builtin
               refine wpList_append_row _ rfl (.tmp 83) (.tmp 94) _ rfl base 54 i0 (.agg #[.int .i64 0, .bool false, .int .u64 0, .int .u64 0]) 4 32 Try.underlying39 HI.out.1 HI.out.2.1 HI.out.2.2.1 HI.out.2.2.2 rfl (by omega) (.slice A0 ops.length cp0) ops.length (ropcs ops) rfl
                 (own_fr HO3.out ((Fr.refl [] _).alloc _) (fun _ _ => by simp)) (some ⟨w2.heap.size, 0, none⟩) 1 1 [.int .i64 (k : Int), .bool false, .int .u64 (st : Int), .int .u64 (d : Int)] rfl rfl (row_four5 w2 _ _ _ _ _) (by intro u hu; simp at hu; rcases hu with rfl | rfl | rfl | rfl <;> rfl) (by simp only [maxLen]; omega) (by omega) (by simpa using hs2) ?_
               intro v3 w3 hown3 hg3 hat3))
          clear c0' c1' c2' c3' d1'
          have hf23 : Fr (Value.slice A0 ops.length cp0).ownBlock.toList w2 w3 := ((Fr.refl _ w2).alloc _).trans (Fr.of_grown hg3)
          have hob : ∀ y ∈ (Value.slice A0 ops.length cp0).ownBlock.toList, base ≤ y := fun y hy => (own_block HO3.out (by simpa using hy)).1
          have HAT4 := hide (HAT3.out.frGe hf23 HLOW.out hob)
          have HFX3 := hide (HFX2.out.trans (⟨_, fun y hy => .inr (hob y hy), hf23⟩ : FrX [P.gB, P.gC] base w2 w3))
          obtain ⟨ops2, hops2⟩ : ∃ ops2, ops2 = ops ++ [remO P.n R now k s] := ⟨_, rfl⟩
          have hl2 : ops2.length = ops.length + 1 := by rw [hops2]; simp
          have hown4 : w3.ownsRow base 54 4 v3 ops2.length (ropcs ops2) := by
            rw [hl2, hops2, ropcs_snoc, HRO.out]
            exact hown3
          have HL2 := hide hl2
          have HOPS := hide hops2
          obtain ⟨A3, cp3, rfl, -, -, -⟩ := own_slice hown4
          have HOWN4 := hide hown4
          clear hown3 hown4 hg3 hat3 hf23 hob HAT3 HO3 HFX2 hs2 hl2 hops2
          obtain ⟨c0', -, -, -⟩ := HAT4.out.cells
          rw [HA.out] at c0'
          obtain ⟨ob', oo', hA', r0', -, -⟩ := HAT4.out.rail hk
          rw [HA.out] at hA'
          injection hA' with hA'
          injection hA' with e1 e2
          subst e1 e2
          have hneg : ¬ (0 : Int) ≤ (R k).sup := by have := HSUP.out; omega
          go_wp2
          go_ret
          refine ⟨_, rfl, ?_, ?_, HFX3.out⟩
          · rw [HD3.out]; exact HAT4.out
          · rw [HD3.out]
            show World.ownsRow _ _ _ _ _ (ops ++ [remO P.n R now k s]).length (ropcs (ops ++ [remO P.n R now k s]))
            rw [← HOPS.out]
            exact HOWN4.out
  | @next k q L hk hs hc hn ih =>
    intro s f ops v w hat hof hfk hcn hlow hbase hown hlen
    obtain ⟨A0, cp0, rfl, -, -, -⟩ := own_slice hown
    have hpos : 1 ≤ s.cnt k := by have := hof k hk; omega
    have HOF := hide hof
    have HCN := hide hcn
    have HLOW := hide hlow
    have HSUP := hide hs
    obtain ⟨c0, c1, c2, c3⟩ := hat.cells
    have d0 := hat.cntAt hk
    have f0 := hat.cnt.frozen k
    have hki : (k : Int) < (P.n : Int) := by omega
    have hn64 := hat.n64
    have hck := hcn k hk
    obtain ⟨c, hcc⟩ : ∃ c, c = s.cnt k - 1 := ⟨_, rfl⟩
    have hci : (s.cnt k : Int) - 1 = (c : Int) := by omega
    have hcw : IntKind.i64.wrap (c : Int) = (c : Int) := by simp [IntKind.wrap, IntKind.signed, IntKind.bits]; omega
    have HAT1 := hide (show RqAt (w.setCell ⟨P.gB, k, none⟩ (.int .i64 (c : Int))) P R (decR k s) from by rw [hcc]; exact hat.setCnt k (s.cnt k - 1))
    have hfr1 : Fr [P.gB] w (w.setCell ⟨P.gB, k, none⟩ (.int .i64 (c : Int))) := (Fr.refl _ _).set (.inl (by simp)) _
    have HO1 := hide (own_fr hown hfr1 (own_above hown hlow.2.1))
    have HFX1 := hide (show FrX [P.gB, P.gC] base w (w.setCell ⟨P.gB, k, none⟩ (.int .i64 (c : Int))) from (FrX.refl _ _ _).set (by simp) _)
    have HCC := hide hcc
    have HIH := hide ih
    have HD := hide (show remC P.n R now k (q :: L) s = if 1 < s.cnt k then (decR k s, []) else ((remC P.n R now q L (remS P.n R now k s)).1, remO P.n R now k s :: (remC P.n R now q L (remS P.n R now k s)).2) from by rw [remC])
    clear ih hn hat hof hcn hlow hown hs hfr1 hcc
    go_enter Try.func116, Try.ntmps116
    go_upto_region 2 with (fail)
    clear c0 c1 c2 c3 d0 f0 hci hcw
    generalize w.setCell ⟨P.gB, k, none⟩ (.int .i64 (c : Int)) = w1 at HAT1 HO1 HFX1 ⊢
    obtain ⟨c0, c1, c2, c3⟩ := HAT1.out.cells
    have d0 : w1.cell? ⟨P.gB, k, none⟩ = some (.int .i64 (c : Int)) := by
      have h := HAT1.out.cntAt hk
      simp only [decR, rup_same] at h
      rw [HCC.out]; exact h
    have d1 : w1.cell? ⟨P.gC, k, none⟩ = some (.int .u64 (s.dn k : Int)) := HAT1.out.dnAt hk
    by_cases hz : 1 < s.cnt k
    · have HD2 := HD.out
      rw [if_pos hz] at HD2
      have HD3 := hide HD2
      have hb : decide ((0 : Int) < (c : Int)) = true := decide_eq_true (by have := HCC.out; omega)
      have hbn : decide (0 < c) = true := decide_eq_true (by have := HCC.out; omega)
      have hb0 : (0 : Int) < (c : Int) := by have := HCC.out; omega
      clear HD HD2 hz
      go_wp2
      go_ret
      refine ⟨_, rfl, ?_, ?_, ?_⟩
      · rw [HD3.out]; exact HAT1.out
      · rw [HD3.out, List.append_nil]; exact HO1.out
      · exact HFX1.out
    · have HD2 := HD.out
      rw [if_neg hz] at HD2
      have HD3 := hide HD2
      have hb : decide ((0 : Int) < (c : Int)) = false := decide_eq_false (by have := HCC.out; omega)
      have hbn : decide (0 < c) = false := decide_eq_false (by have := HCC.out; omega)
      have hb0 : ¬ (0 : Int) < (c : Int) := by have := HCC.out; omega
      have HZ := hide hz
      obtain ⟨m0, hm0⟩ : ∃ m0, m0 = max now (s.dn k) := ⟨_, rfl⟩
      have HM0 := hide hm0
      clear HD HD2 hz hm0
      go_wp2_with fail
      refine (later25_any now (s.dn k) m0 HM0.out w1).mono ?_
      rintro e w1' ⟨rfl, rfl⟩
      clear hb hbn hb0
      obtain ⟨ob, oo, hA, -, -, -⟩ := HAT1.out.rail hk
      have HA := hide hA
      rw [hA] at c0
      clear hA
      go_wp2
      go_loopg [9, 10] P.n (fun m v9 v10 wr => DqRel w1 P R k now s m v9 v10 wr)
      case atStart => exact ⟨0, by omega, by rw [startD, HM0.out], rfl, rfl, rfl⟩
      case round =>
        obtain ⟨i, hi, rfl, rfl, rfl, hmm⟩ := hrel
        have HMM := hide hmm
        have HST := hide (show startD R k now s (i + 1) = if (R i).sup = (k : Int) then max (startD R k now s i) (s.dn i) else startD R k now s i from rfl)
        clear hmm c0 c1 c2 c3 d0 d1
        by_cases hin : i < P.n
        · have hii : (i : Int) < (P.n : Int) := by omega
          obtain ⟨ob', oo', hA', r0, r1, r2⟩ := HAT1.out.rail hin
          rw [HA.out] at hA'
          injection hA' with hA'
          injection hA' with e1 e2
          subst e1 e2
          obtain ⟨c0, c1, c2, c3⟩ := HAT1.out.cells
          have g1 : w1.cell? ⟨P.gC, i, none⟩ = some (.int .u64 (s.dn i : Int)) := HAT1.out.dnAt hin
          generalize hsi : startD R k now s i = si at HST ⊢
          rw [HA.out] at c0
          generalize (R i).sup = sp at HST r0
          generalize s.dn i = di at HST g1
          clear hsi r1 r2
          by_cases hsp : sp = (k : Int)
          · have hbq : (sp == (k : Int)) = true := by simp [hsp]
            have HST2 := HST.out
            rw [if_pos hsp] at HST2
            have HS3 := hide HST2
            clear HST HST2 hsp
            go_wp2_with fail
            obtain ⟨sj, hsj⟩ : ∃ sj, sj = startD R k now s (i + 1) := ⟨_, rfl⟩
            have HSJ := hide hsj
            refine (later25_any si di sj (hsj.trans HS3.out) w1).mono ?_
            rintro e w1' ⟨rfl, rfl⟩
            clear hsj
            go_wp2
            go_roundg (P.n - (i + 1))
            case measure => rw [HMM.out]; omega
            case rel => exact ⟨i + 1, by omega, by rw [HSJ.out], by go_num, rfl, rfl⟩
          · have hbq : (sp == (k : Int)) = false := by simp [hsp]
            have HST2 := HST.out
            rw [if_neg hsp] at HST2
            have HS3 := hide HST2
            clear HST HST2 hsp
            go_wp2
            go_roundg (P.n - (i + 1))
            case measure => rw [HMM.out]; omega
            case rel => exact ⟨i + 1, by omega, by rw [HS3.out], by go_num, rfl, rfl⟩
        · have hie : i = P.n := by omega
          subst hie
          have hii : ¬ (P.n : Int) < (P.n : Int) := by omega
          clear HST
          obtain ⟨ob', oo', hA', r0, -, r2⟩ := HAT1.out.rail hk
          rw [HA.out] at hA'
          injection hA' with hA'
          injection hA' with e1 e2
          subst e1 e2
          obtain ⟨c0, c1, c2, c3⟩ := HAT1.out.cells
          rw [HA.out] at c0
          have d1 : w1.cell? ⟨P.gC, k, none⟩ = some (.int .u64 (s.dn k : Int)) := HAT1.out.dnAt hk
          have fd := HAT1.out.dn.frozen k
          obtain ⟨st, hst⟩ : ∃ st, st = startD R k now s P.n := ⟨_, rfl⟩
          rw [← hst]
          obtain ⟨d, hd⟩ : ∃ d, d = (st + (R k).dn) % W64 := ⟨_, rfl⟩
          have hwr : IntKind.u64.wrap ((st : Int) + ((R k).dn : Int)) = (d : Int) := by rw [IntKind.wrap_u64, hd]; unfold W64; omega
          have HRS : Hid (remS P.n R now k s = { decR k s with dn := rup s.dn k d }) := hide (by rw [hd, hst]; rfl)
          have HRO : Hid (remO P.n R now k s = ⟨k, false, st, d⟩) := hide (by rw [hd, hst]; rfl)
          have hof2 := HOF.out.off (now := now) hk HZ.out hfk
          have HOF2 := hide hof2
          have HAT2 := hide ((HAT1.out.setDn k d).fr0 (Fr.refl [] _).drew)
          have hfr2 : Fr [P.gC] w1 (w1.setCell ⟨P.gC, k, none⟩ (.int .u64 (d : Int))).drew := ((Fr.refl _ _).set (.inl (by simp)) _).drew
          have HO3 := hide (own_fr HO1.out hfr2 (own_above HO1.out HLOW.out.2.2.1))
          have HFX2 := hide (HFX1.out.trans (⟨[P.gC], fun y hy => .inl (by simp at hy; simp [hy]), hfr2⟩ : FrX [P.gB, P.gC] base w1 _))
          generalize (R k).dn = u at r2 hwr
          clear hd hst hfr2 hof2
          go_upto_region 10 with (fail)
          go_still_tail 16, (by kernel_rfl)
          repeat still_step
          go_upto_region 11 with (fail)
          clear c0 c1 c2 c3 d1 fd r0 r2
          generalize (w1.setCell ⟨P.gC, k, none⟩ (.int .u64 (d : Int))).drew = w2 at HAT2 HO3 HFX2 ⊢
          have hat2 := HAT2.out
          rw [show ({ decR k s with dn := rup (decR k s).dn k d } : RSt) = remS P.n R now k s from by rw [HRS.out]; rfl] at hat2
          have HAT3 := hide hat2
          clear hat2 HAT2
          obtain ⟨c0', c1', c2', c3'⟩ := HAT3.out.cells
          have d1' : w2.cell? ⟨P.gC, k, none⟩ = some (.int .u64 (d : Int)) := by
            have h := HAT3.out.dnAt hk
            rw [HRS.out] at h
            simp only [rup_same] at h
            exact h
          have hs2 : base ≤ w2.heap.size + 1 := by have := HFX2.out.size; omega
          go_upto_region 12 with (first
            | (at_builtin
               refine wpList_append_row _ rfl (.tmp 83) (.tmp 94) _ rfl base 54 i0 (.agg #[.int .i64 0, .bool false, .int .u64 0, .int .u64 0]) 4 32 Try.underlying39 HI.out.1 HI.out.2.1 HI.out.2.2.1 HI.out.2.2.2 rfl (by omega) (.slice A0 ops.length cp0) ops.length (ropcs ops) rfl
                 (own_fr HO3.out ((Fr.refl [] _).alloc _) (fun _ _ => by simp)) (some ⟨w2.heap.size, 0, none⟩) 1 1 [.int .i64 (k : Int), .bool false, .int .u64 (st : Int), .int .u64 (d : Int)] rfl rfl (row_four5 w2 _ _ _ _ _) (by intro u hu; simp at hu; rcases hu with rfl | rfl | rfl | rfl <;> rfl) (by simp only [maxLen]; omega) (by omega) (by simpa using hs2) ?_
               intro v3 w3 hown3 hg3 hat3))
          clear c0' c1' c2' c3' d1'
          have hf23 : Fr (Value.slice A0 ops.length cp0).ownBlock.toList w2 w3 := ((Fr.refl _ w2).alloc _).trans (Fr.of_grown hg3)
          have hob : ∀ y ∈ (Value.slice A0 ops.length cp0).ownBlock.toList, base ≤ y := fun y hy => (own_block HO3.out (by simpa using hy)).1
          have HAT4 := hide (HAT3.out.frGe hf23 HLOW.out hob)
          have HFX3 := hide (HFX2.out.trans (⟨_, fun y hy => .inr (hob y hy), hf23⟩ : FrX [P.gB, P.gC] base w2 w3))
          obtain ⟨ops2, hops2⟩ : ∃ ops2, ops2 = ops ++ [remO P.n R now k s] := ⟨_, rfl⟩
          have hl2 : ops2.length = ops.length + 1 := by rw [hops2]; simp
          have hown4 : w3.ownsRow base 54 4 v3 ops2.length (ropcs ops2) := by
            rw [hl2, hops2, ropcs_snoc, HRO.out]
            exact hown3
          have HL2 := hide hl2
          have HOPS := hide hops2
          obtain ⟨A3, cp3, rfl, -, -, -⟩ := own_slice hown4
          have HOWN4 := hide hown4
          clear hown3 hown4 hg3 hat3 hf23 hob HAT3 HO3 HFX2 hs2 hl2 hops2
          obtain ⟨c0', -, -, -⟩ := HAT4.out.cells
          rw [HA.out] at c0'
          obtain ⟨ob', oo', hA', r0', -, -⟩ := HAT4.out.rail hk
          rw [HA.out] at hA'
          injection hA' with hA'
          injection hA' with e1 e2
          subst e1 e2
          rw [HSUP.out] at r0'
          have hq0 : (0 : Int) ≤ (q : Int) := by omega
          have hcn3 : ∀ j, j < P.n → (remS P.n R now k s).cnt j ≤ 100000 := fun j hj => by
            show rup s.cnt k (s.cnt k - 1) j ≤ 100000
            by_cases e : j = k
            · subst e; rw [rup_same]; omega
            · rw [rup_other e]; exact HCN.out j hj
          have HCN3 := hide hcn3
          have hb3 : base ≤ w3.heap.size := by have := HFX3.out.size; omega
          clear hcn3
          go_wp2_with fail
          refine (HIH.out (remS P.n R now k s) _ ops2 _ w3 HAT4.out HOF2.out (by simp [HSUP.out]) HCN3.out HLOW.out hb3 HOWN4.out (by rw [HL2.out]; simp at hlen; omega)).mono ?_
          rintro e w5 ⟨v5, rfl, hat5, hown5, hfx5⟩
          have HAT5 := hide hat5
          have HOWN5 := hide hown5
          clear hat5 hown5 c0' r0'
          go_wp2
          go_ret
          refine ⟨_, rfl, ?_, ?_, HFX3.out.trans hfx5⟩
          · rw [HD3.out]; exact HAT5.out
          · rw [HD3.out]
            show World.ownsRow _ _ _ _ _ (ops ++ (remO P.n R now k s :: (remC P.n R now q L (remS P.n R now k s)).2)).length (ropcs (ops ++ (remO P.n R now k s :: (remC P.n R now q L (remS P.n R now k s)).2)))
            have e : ops ++ (remO P.n R now k s :: (remC P.n R now q L (remS P.n R now k s)).2) = ops2 ++ (remC P.n R now q L (remS P.n R now k s)).2 := by rw [HOPS.out]; simp
            rw [e]
            exact HOWN5.out
end Go.Proofs.Ytdocdgghphhdpaa

