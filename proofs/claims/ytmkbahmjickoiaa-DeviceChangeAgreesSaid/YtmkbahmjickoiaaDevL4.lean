/- The law DeviceChangeAgrees. -/
import Derived.Test.YtmkbahmjickoiaaDevL3
import Derived.Test.YtmkbahmjickoiaaDevR1
namespace Go.Proofs.Ytmkbahmjickoiaa
open Go.RowKit

theorem idx39_0 {a0 a1 a2 a3 a4 a5 a6 a7 a8 a9 a10 a11 a12 a13 a14 a15 a16 a17 a18 a19 a20 a21 a22 a23 a24 a25 : Value} {w : World} : Sem.run Try.prog (Instr.index 39 (.agg #[a0, a1, a2, a3, a4, a5, a6, a7, a8, a9, a10, a11, a12, a13, a14, a15, a16, a17, a18, a19, a20, a21, a22, a23, a24, a25]) (.int .i64 0)) w = .ok (.agg #[a0, a1, a2, a3, a4, a5, a6, a7, a8, a9, a10, a11, a12]) w := by kernel_rfl
theorem idx39_1 {a0 a1 a2 a3 a4 a5 a6 a7 a8 a9 a10 a11 a12 a13 a14 a15 a16 a17 a18 a19 a20 a21 a22 a23 a24 a25 : Value} {w : World} : Sem.run Try.prog (Instr.index 39 (.agg #[a0, a1, a2, a3, a4, a5, a6, a7, a8, a9, a10, a11, a12, a13, a14, a15, a16, a17, a18, a19, a20, a21, a22, a23, a24, a25]) (.int .i64 1)) w = .ok (.agg #[a13, a14, a15, a16, a17, a18, a19, a20, a21, a22, a23, a24, a25]) w := by kernel_rfl
theorem idx41_0 {a b c d : Value} {w : World} : Sem.run Try.prog (Instr.index 41 (.agg #[a, b, c, d]) (.int .i64 0)) w = .ok (.agg #[a, b]) w := by kernel_rfl
theorem idx41_1 {a b c d : Value} {w : World} : Sem.run Try.prog (Instr.index 41 (.agg #[a, b, c, d]) (.int .i64 1)) w = .ok (.agg #[c, d]) w := by kernel_rfl
theorem changeM_l1 {rl : Nat → List Int} (h : ∀ k, (rl k).length ≤ 4096) (a b : Int) : (changeM rl a b).1.length ≤ 4096 := by
  unfold changeM
  split
  · split
    · exact Nat.le_trans (diffM_len _ _) (needL_len h _)
    · simp
  · simp
theorem changeM_l2 {rl : Nat → List Int} (h : ∀ k, (rl k).length ≤ 4096) (a b : Int) : (changeM rl a b).2.1.length ≤ 4096 := by
  unfold changeM
  split
  · split
    · show (diffM _ _).reverse.length ≤ 4096
      rw [List.length_reverse]
      exact Nat.le_trans (diffM_len _ _) (needL_len h _)
    · simp
  · simp
set_option maxHeartbeats 8000000 in
set_option maxRecDepth 100000 in
theorem changeAgrees_any (x : DV) (a b : Int) (w : World) (hx : DvWf w x) :
    Calls Try.prog 6 #[.agg x.d.cells, .int .i64 a, .int .i64 b] w fun e w' => e = .returned (.bool true) ∧ Fr [] w w' := by
  have HX := hide hx
  obtain ⟨A0, Aq0, EA0, -⟩ := hx.1 0 (by omega)
  obtain ⟨A1, Aq1, EA1, -⟩ := hx.1 1 (by omega)
  obtain ⟨A2, Aq2, EA2, -⟩ := hx.1 2 (by omega)
  obtain ⟨A3, Aq3, EA3, -⟩ := hx.1 3 (by omega)
  have HA0 := hide EA0
  have HA1 := hide EA1
  have HA2 := hide EA2
  have HA3 := hide EA3
  clear EA0 EA1 EA2 EA3
  have HC : Hid (x.d.cells = #[.int .i64 x.d.par, .slice A0 (x.rl 0).length Aq0, .slice A1 (x.rl 1).length Aq1, .slice A2 (x.rl 2).length Aq2, .slice A3 (x.rl 3).length Aq3, .int .i64 (x.d.df 0), .int .i64 (x.d.df 1), .int .i64 (x.d.df 2), .int .i64 (x.d.df 3), .int .i64 (x.d.df 4), .int .i64 (x.d.df 5), .int .i64 x.d.wd, .int .i64 x.d.ws]) := hide (by simp only [PD.cells, HA0.out, HA1.out, HA2.out, HA3.out])
  clear hx
  rw [HC.out]
  go_enter Try.func6, Try.ntmps6
  go_wp2_with fail
  rw [← HC.out]
  have hp0 := PD13.new w 33 x.d
  have hf0 : Fr [] w (w.alloc (.cells x.d.cells 33)) := (Fr.refl _ _).alloc _
  have hp1 := hp0.fr0 ((Fr.refl [] _).alloc (.cells x.d.cells 33))
  have hf1 := hf0.alloc (.cells x.d.cells 33)
  have HXa := hide (HX.out.fr0 hf1)
  have HDV : Hid (DvsAt ((w.alloc (.cells x.d.cells 33)).alloc (.cells x.d.cells 33)) (some ⟨w.heap.size + 1, 0, none⟩) [x]) := hide ⟨by
    have := row_lit (w.alloc (.cells x.d.cells 33)) x.d.cells 33 rfl
    simpa [dvcs, dvc] using this, fun y hy => by rw [List.mem_singleton.1 hy]; exact HXa.out.1⟩
  clear hp0
  generalize ((w.alloc (.cells x.d.cells 33)).alloc (.cells x.d.cells 33)) = wa at hp1 hf1 HXa HDV ⊢
  generalize w.heap.size = g at hp1 HDV ⊢
  have HP := hide hp1
  clear hp1
  refine (large27_any (some ⟨g + 1, 0, none⟩) 1 [x] wa HDV.out (by simp [maxLen])).mono ?_
  rintro e w1 ⟨big, rfl, hlg, rfl⟩
  cases big with
  | true =>
    go_wp2_with fail
    refine (awake27_any wa).mono ?_
    rintro e w7 ⟨rfl, hf7⟩
    go_wp2
    go_ret
    exact ⟨rfl, hf1.call hf7⟩
  | false =>
  have HLG : Hid (∀ k, (x.rl k).length ≤ 4096) := hide (fun k => by
    by_cases h : k < 4
    · have := (hlg rfl).2 x (List.mem_singleton.2 rfl) k h
      omega
    · rw [HX.out.2.2 k (by omega)]
      simp)
  clear hlg
  obtain ⟨c0, c1, c2, c3, c4, c5, c6, c7, c8, c9, c10, c11, c12⟩ := HP.out
  rw [HA0.out] at c1
  rw [HA1.out] at c2
  rw [HA2.out] at c3
  rw [HA3.out] at c4
  go_wp2_with fail
  rw [← HC.out]
  have hf2 := (Fr.refl [] wa).alloc (.cells x.d.cells 33)
  refine (some_at x 5 wa.heap.size wa rfl HXa.out (by omega)).mono ?_
  rintro e w2 ⟨⟨ob, oo, sp⟩, cp, rf, rfl, hra, hpd, hsp, -, hf3⟩
  cases hsp
  have hfa2 := hf2.call hf3
  have hf02 := hf1.call hfa2
  have HPD := hide hpd
  have HRA := hide hra
  have HP2 := hide (HP.out.fr0 hfa2)
  have HX2 := hide (HX.out.fr0 hf02)
  obtain ⟨B0, Bq0, EB0, -⟩ := hra 0 (by omega)
  obtain ⟨B1, Bq1, EB1, -⟩ := hra 1 (by omega)
  obtain ⟨B2, Bq2, EB2, -⟩ := hra 2 (by omega)
  obtain ⟨B3, Bq3, EB3, -⟩ := hra 3 (by omega)
  have HB0 := hide EB0
  have HB1 := hide EB1
  have HB2 := hide EB2
  have HB3 := hide EB3
  clear EB0 EB1 EB2 EB3
  have HC2 : Hid ((someP x 0 rf).cells = #[.int .i64 (someP x 0 rf).par, .slice B0 (someRl x 5 0).length Bq0, .slice B1 (someRl x 5 1).length Bq1, .slice B2 (someRl x 5 2).length Bq2, .slice B3 (someRl x 5 3).length Bq3, .int .i64 ((someP x 0 rf).df 0), .int .i64 ((someP x 0 rf).df 1), .int .i64 ((someP x 0 rf).df 2), .int .i64 ((someP x 0 rf).df 3), .int .i64 ((someP x 0 rf).df 4), .int .i64 ((someP x 0 rf).df 5), .int .i64 (someP x 0 rf).wd, .int .i64 (someP x 0 rf).ws]) := hide (by simp only [PD.cells, HB0.out, HB1.out, HB2.out, HB3.out])
  have HRN : Hid (∀ k, (someRl x 5 k).length ≤ 4096) := hide (fun k => someRl_len x 5 k)
  have HAS : Hid (∀ k, ascB (needL (someRl x 5) k) = true) := hide (fun k => someRl_asc x 5 k)
  clear hpd hra hf0 hf1 hf2 hf3 hfa2 HXa HX HP HDV c0 c1 c2 c3 c4 c5 c6 c7 c8 c9 c10 c11 c12
  generalize someP x 0 rf = D at HPD HRA HB0 HB1 HB2 HB3 HC2
  generalize someRl x 5 = rl at HRA HB0 HB1 HB2 HB3 HC2 HRN HAS
  obtain ⟨c0, c1, c2, c3, c4, c5, c6, c7, c8, c9, c10, c11, c12⟩ := HP2.out
  rw [HA0.out] at c1
  rw [HA1.out] at c2
  rw [HA2.out] at c3
  rw [HA3.out] at c4
  obtain ⟨d0, d1, d2, d3, d4, d5, d6, d7, d8, d9, d10, d11, d12⟩ := HPD.out
  rw [HB0.out] at d1
  rw [HB1.out] at d2
  rw [HB2.out] at d3
  rw [HB3.out] at d4
  have HRX := hide HX2.out.1
  clear HX2 HAS
  go_wp2_with fail
  go_quiet (fail)
  clear c0 c1 c2 c3 c4 c5 c6 c7 c8 c9 c10 c11 c12 d0 d1 d2 d3 d4 d5 d6 d7 d8 d9 d10 d11 d12
  rw [← HC.out, ← HC2.out]
  go_wp2
  go_loopg [30] 2 (fun m i wr => Cr1 w2 2 m i wr)
  case atStart => exact ⟨0, by omega, rfl, (Fr.refl _ _).drewN _, rfl⟩
  case round =>
    obtain ⟨k, hk, rfl, hfr, hmm⟩ := hrel
    have HM := hide hmm
    clear hmm
    have h3 : k = 0 ∨ k = 1 ∨ k = 2 := by omega
    rcases h3 with rfl | rfl | rfl
    · rw [show ((0 : Nat) : Int) = 0 from rfl]
      go_wp2_with fail
      rw [idx39_0]
      go_wp2_with fail
      rw [← HC.out]
      have HZ0 := hide (PD13.new wr 33 x.d)
      have hfa := hfr.alloc (.cells x.d.cells 33)
      generalize wr.alloc (.cells x.d.cells 33) = wa at hfa HZ0 ⊢
      generalize wr.heap.size = gz at HZ0 ⊢
      refine (mod_int a 5 wa (by omega) (by omega)).mono ?_
      rintro e w' ⟨rfl, rfl⟩
      rw [show (5 : Int).toNat = 5 from rfl]
      go_wp2_with fail
      refine (mod_int b 5 wa (by omega) (by omega)).mono ?_
      rintro e w' ⟨rfl, rfl⟩
      rw [show (5 : Int).toNat = 5 from rfl]
      go_wp2
      have HZ := HZ0
      clear HZ0
      have hfq := hfa
      go_loopg [42] 2 (fun m i wr => Cr1 wa 2 m i wr)
      case atStart => exact ⟨0, by omega, rfl, Fr.refl _ _, rfl⟩
      case round =>
        obtain ⟨t, ht, rfl, hfr2, hmm⟩ := hrel
        have HM2 := hide hmm
        clear hmm
        have h3 : t = 0 ∨ t = 1 ∨ t = 2 := by omega
        rcases h3 with rfl | rfl | rfl
        · rw [show ((0 : Nat) : Int) = 0 from rfl]
          go_wp2_with fail
          rw [idx41_0]
          go_upto_region 10 with (fail)
          have hf10 := hfr2.alloc (.cells #[.int .i64 a, .int .i64 b] 40)
          have HQ0 := hide (HZ.out.fr0 hf10)
          have HY : Hid (Blk (wr.alloc (.cells #[.int .i64 a, .int .i64 b] 40)) wr.heap.size 40 #[.int .i64 a, .int .i64 b]) := hide (Blk.new wr _ _)
          generalize wr.alloc (.cells #[.int .i64 a, .int .i64 b] 40) = wb at hf10 HQ0 HY ⊢
          generalize wr.heap.size = gy at HY ⊢
          obtain ⟨c0, c1, c2, c3, c4, c5, c6, c7, c8, c9, c10, c11, c12⟩ := HQ0.out
          rw [HA0.out] at c1
          rw [HA1.out] at c2
          rw [HA2.out] at c3
          rw [HA3.out] at c4
          have cy0 := HY.out.cell 0
          have cy1 := HY.out.cell 1
          try simp only [List.getElem?_toArray, List.getElem?_cons_zero, List.getElem?_cons_succ] at cy0 cy1
          go_wp2_with fail
          rw [← HC.out]
          refine (change27_any x.d x.rl a b wb ((HRX.out.fr0 hfq).fr0 hf10) HLG.out).mono ?_
          have hl1 := changeM_l1 HLG.out a b
          have hl2 := changeM_l2 HLG.out a b
          generalize hR : changeM x.rl a b = R at hl1 hl2 ⊢
          have HR := hide hR
          clear hR
          rintro e w5 ⟨v1, v2, rfl, ho1, ho2, hf5⟩
          clear cy0 cy1
          have cy0 := hf5.cell (HY.out.cell 0) (by simp)
          have cy1 := hf5.cell (HY.out.cell 1) (by simp)
          try simp only [List.getElem?_toArray, List.getElem?_cons_zero, List.getElem?_cons_succ] at cy0 cy1
          clear c0 c1 c2 c3 c4 c5 c6 c7 c8 c9 c10 c11 c12
          obtain ⟨c0, c1, c2, c3, c4, c5, c6, c7, c8, c9, c10, c11, c12⟩ := HQ0.out.fr0 hf5
          rw [HA0.out] at c1
          rw [HA1.out] at c2
          rw [HA2.out] at c3
          rw [HA3.out] at c4
          go_wp2_with fail
          rw [← HC.out]
          refine (rchange27_any x.d x.rl a b w5 (((HRX.out.fr0 hfq).fr0 hf10).fr0 hf5) HLG.out).mono ?_
          rw [HR.out]
          rintro e w6 ⟨v3, v4, rfl, ho3, ho4, hf6⟩
          obtain ⟨Q1, p1, rfl, -, r1, -⟩ := own_slice ho1
          obtain ⟨Q2, p2, rfl, -, r2, -⟩ := own_slice ho2
          obtain ⟨Q3, p3, rfl, -, r3, -⟩ := own_slice ho3
          obtain ⟨Q4, p4, rfl, -, r4, -⟩ := own_slice ho4
          have HR1 := hide (r1.fr0 hf6)
          have HR2 := hide (r2.fr0 hf6)
          have HR3 := hide r3
          have HR4 := hide r4
          clear ho1 ho2 ho3 ho4 r1 r2 r3 r4 cy0 cy1 c0 c1 c2 c3 c4 c5 c6 c7 c8 c9 c10 c11 c12
          have hne : (R.2.2 != R.2.2) = false := by simp
          go_wp2_with fail
          refine (equalInts_any Q1 Q3 p1 p3 R.1 R.1 w6 HR1.out HR3.out hl1 hl1).mono ?_
          rintro e w7 ⟨rfl, hf7⟩
          rw [decide_eq_true rfl]
          go_wp2_with fail
          refine (equalInts_any Q2 Q4 p2 p4 R.2.1 R.2.1 w7 (HR2.out.fr0 hf7) (HR4.out.fr0 hf7) hl2 hl2).mono ?_
          rintro e w8 ⟨rfl, hf8⟩
          rw [decide_eq_true rfl]
          go_wp2
          go_roundg 1
          case measure => rw [HM2.out]; omega
          case rel => exact ⟨1, by omega, by go_num, (((hf10.call hf5).call hf6).call hf7).call hf8, rfl⟩
        · rw [show ((1 : Nat) : Int) = 1 from rfl]
          go_wp2_with fail
          rw [idx41_1]
          go_upto_region 10 with (fail)
          have hf10 := hfr2.alloc (.cells #[.int .i64 (umod a 5 : Int), .int .i64 (umod b 5 : Int)] 40)
          have HQ0 := hide (HZ.out.fr0 hf10)
          have HY : Hid (Blk (wr.alloc (.cells #[.int .i64 (umod a 5 : Int), .int .i64 (umod b 5 : Int)] 40)) wr.heap.size 40 #[.int .i64 (umod a 5 : Int), .int .i64 (umod b 5 : Int)]) := hide (Blk.new wr _ _)
          generalize wr.alloc (.cells #[.int .i64 (umod a 5 : Int), .int .i64 (umod b 5 : Int)] 40) = wb at hf10 HQ0 HY ⊢
          generalize wr.heap.size = gy at HY ⊢
          obtain ⟨c0, c1, c2, c3, c4, c5, c6, c7, c8, c9, c10, c11, c12⟩ := HQ0.out
          rw [HA0.out] at c1
          rw [HA1.out] at c2
          rw [HA2.out] at c3
          rw [HA3.out] at c4
          have cy0 := HY.out.cell 0
          have cy1 := HY.out.cell 1
          try simp only [List.getElem?_toArray, List.getElem?_cons_zero, List.getElem?_cons_succ] at cy0 cy1
          go_wp2_with fail
          rw [← HC.out]
          refine (change27_any x.d x.rl (umod a 5 : Int) (umod b 5 : Int) wb ((HRX.out.fr0 hfq).fr0 hf10) HLG.out).mono ?_
          have hl1 := changeM_l1 HLG.out (umod a 5 : Int) (umod b 5 : Int)
          have hl2 := changeM_l2 HLG.out (umod a 5 : Int) (umod b 5 : Int)
          generalize hR : changeM x.rl (umod a 5 : Int) (umod b 5 : Int) = R at hl1 hl2 ⊢
          have HR := hide hR
          clear hR
          rintro e w5 ⟨v1, v2, rfl, ho1, ho2, hf5⟩
          clear cy0 cy1
          have cy0 := hf5.cell (HY.out.cell 0) (by simp)
          have cy1 := hf5.cell (HY.out.cell 1) (by simp)
          try simp only [List.getElem?_toArray, List.getElem?_cons_zero, List.getElem?_cons_succ] at cy0 cy1
          clear c0 c1 c2 c3 c4 c5 c6 c7 c8 c9 c10 c11 c12
          obtain ⟨c0, c1, c2, c3, c4, c5, c6, c7, c8, c9, c10, c11, c12⟩ := HQ0.out.fr0 hf5
          rw [HA0.out] at c1
          rw [HA1.out] at c2
          rw [HA2.out] at c3
          rw [HA3.out] at c4
          go_wp2_with fail
          rw [← HC.out]
          refine (rchange27_any x.d x.rl (umod a 5 : Int) (umod b 5 : Int) w5 (((HRX.out.fr0 hfq).fr0 hf10).fr0 hf5) HLG.out).mono ?_
          rw [HR.out]
          rintro e w6 ⟨v3, v4, rfl, ho3, ho4, hf6⟩
          obtain ⟨Q1, p1, rfl, -, r1, -⟩ := own_slice ho1
          obtain ⟨Q2, p2, rfl, -, r2, -⟩ := own_slice ho2
          obtain ⟨Q3, p3, rfl, -, r3, -⟩ := own_slice ho3
          obtain ⟨Q4, p4, rfl, -, r4, -⟩ := own_slice ho4
          have HR1 := hide (r1.fr0 hf6)
          have HR2 := hide (r2.fr0 hf6)
          have HR3 := hide r3
          have HR4 := hide r4
          clear ho1 ho2 ho3 ho4 r1 r2 r3 r4 cy0 cy1 c0 c1 c2 c3 c4 c5 c6 c7 c8 c9 c10 c11 c12
          have hne : (R.2.2 != R.2.2) = false := by simp
          go_wp2_with fail
          refine (equalInts_any Q1 Q3 p1 p3 R.1 R.1 w6 HR1.out HR3.out hl1 hl1).mono ?_
          rintro e w7 ⟨rfl, hf7⟩
          rw [decide_eq_true rfl]
          go_wp2_with fail
          refine (equalInts_any Q2 Q4 p2 p4 R.2.1 R.2.1 w7 (HR2.out.fr0 hf7) (HR4.out.fr0 hf7) hl2 hl2).mono ?_
          rintro e w8 ⟨rfl, hf8⟩
          rw [decide_eq_true rfl]
          go_wp2
          go_roundg 0
          case measure => rw [HM2.out]; omega
          case rel => exact ⟨2, by omega, by go_num, (((hf10.call hf5).call hf6).call hf7).call hf8, rfl⟩
        · rw [show ((2 : Nat) : Int) = 2 from rfl]
          go_wp2
          go_roundg 1
          case measure => rw [HM.out]; omega
          case rel => exact ⟨1, by omega, by go_num, hfa.call hfr2, rfl⟩
    · rw [show ((1 : Nat) : Int) = 1 from rfl]
      go_wp2_with fail
      rw [idx39_1]
      go_wp2_with fail
      rw [← HC2.out]
      have HZ0 := hide (PD13.new wr 33 D)
      have hfa := hfr.alloc (.cells D.cells 33)
      generalize wr.alloc (.cells D.cells 33) = wa at hfa HZ0 ⊢
      generalize wr.heap.size = gz at HZ0 ⊢
      refine (mod_int a 5 wa (by omega) (by omega)).mono ?_
      rintro e w' ⟨rfl, rfl⟩
      rw [show (5 : Int).toNat = 5 from rfl]
      go_wp2_with fail
      refine (mod_int b 5 wa (by omega) (by omega)).mono ?_
      rintro e w' ⟨rfl, rfl⟩
      rw [show (5 : Int).toNat = 5 from rfl]
      go_wp2
      have HZ := HZ0
      clear HZ0
      have hfq := hfa
      go_loopg [42] 2 (fun m i wr => Cr1 wa 2 m i wr)
      case atStart => exact ⟨0, by omega, rfl, Fr.refl _ _, rfl⟩
      case round =>
        obtain ⟨t, ht, rfl, hfr2, hmm⟩ := hrel
        have HM2 := hide hmm
        clear hmm
        have h3 : t = 0 ∨ t = 1 ∨ t = 2 := by omega
        rcases h3 with rfl | rfl | rfl
        · rw [show ((0 : Nat) : Int) = 0 from rfl]
          go_wp2_with fail
          rw [idx41_0]
          go_upto_region 10 with (fail)
          have hf10 := hfr2.alloc (.cells #[.int .i64 a, .int .i64 b] 40)
          have HQ0 := hide (HZ.out.fr0 hf10)
          have HY : Hid (Blk (wr.alloc (.cells #[.int .i64 a, .int .i64 b] 40)) wr.heap.size 40 #[.int .i64 a, .int .i64 b]) := hide (Blk.new wr _ _)
          generalize wr.alloc (.cells #[.int .i64 a, .int .i64 b] 40) = wb at hf10 HQ0 HY ⊢
          generalize wr.heap.size = gy at HY ⊢
          obtain ⟨c0, c1, c2, c3, c4, c5, c6, c7, c8, c9, c10, c11, c12⟩ := HQ0.out
          rw [HB0.out] at c1
          rw [HB1.out] at c2
          rw [HB2.out] at c3
          rw [HB3.out] at c4
          have cy0 := HY.out.cell 0
          have cy1 := HY.out.cell 1
          try simp only [List.getElem?_toArray, List.getElem?_cons_zero, List.getElem?_cons_succ] at cy0 cy1
          go_wp2_with fail
          rw [← HC2.out]
          refine (change27_any D rl a b wb ((HRA.out.fr0 hfq).fr0 hf10) HRN.out).mono ?_
          have hl1 := changeM_l1 HRN.out a b
          have hl2 := changeM_l2 HRN.out a b
          generalize hR : changeM rl a b = R at hl1 hl2 ⊢
          have HR := hide hR
          clear hR
          rintro e w5 ⟨v1, v2, rfl, ho1, ho2, hf5⟩
          clear cy0 cy1
          have cy0 := hf5.cell (HY.out.cell 0) (by simp)
          have cy1 := hf5.cell (HY.out.cell 1) (by simp)
          try simp only [List.getElem?_toArray, List.getElem?_cons_zero, List.getElem?_cons_succ] at cy0 cy1
          clear c0 c1 c2 c3 c4 c5 c6 c7 c8 c9 c10 c11 c12
          obtain ⟨c0, c1, c2, c3, c4, c5, c6, c7, c8, c9, c10, c11, c12⟩ := HQ0.out.fr0 hf5
          rw [HB0.out] at c1
          rw [HB1.out] at c2
          rw [HB2.out] at c3
          rw [HB3.out] at c4
          go_wp2_with fail
          rw [← HC2.out]
          refine (rchange27_any D rl a b w5 (((HRA.out.fr0 hfq).fr0 hf10).fr0 hf5) HRN.out).mono ?_
          rw [HR.out]
          rintro e w6 ⟨v3, v4, rfl, ho3, ho4, hf6⟩
          obtain ⟨Q1, p1, rfl, -, r1, -⟩ := own_slice ho1
          obtain ⟨Q2, p2, rfl, -, r2, -⟩ := own_slice ho2
          obtain ⟨Q3, p3, rfl, -, r3, -⟩ := own_slice ho3
          obtain ⟨Q4, p4, rfl, -, r4, -⟩ := own_slice ho4
          have HR1 := hide (r1.fr0 hf6)
          have HR2 := hide (r2.fr0 hf6)
          have HR3 := hide r3
          have HR4 := hide r4
          clear ho1 ho2 ho3 ho4 r1 r2 r3 r4 cy0 cy1 c0 c1 c2 c3 c4 c5 c6 c7 c8 c9 c10 c11 c12
          have hne : (R.2.2 != R.2.2) = false := by simp
          go_wp2_with fail
          refine (equalInts_any Q1 Q3 p1 p3 R.1 R.1 w6 HR1.out HR3.out hl1 hl1).mono ?_
          rintro e w7 ⟨rfl, hf7⟩
          rw [decide_eq_true rfl]
          go_wp2_with fail
          refine (equalInts_any Q2 Q4 p2 p4 R.2.1 R.2.1 w7 (HR2.out.fr0 hf7) (HR4.out.fr0 hf7) hl2 hl2).mono ?_
          rintro e w8 ⟨rfl, hf8⟩
          rw [decide_eq_true rfl]
          go_wp2
          go_roundg 1
          case measure => rw [HM2.out]; omega
          case rel => exact ⟨1, by omega, by go_num, (((hf10.call hf5).call hf6).call hf7).call hf8, rfl⟩
        · rw [show ((1 : Nat) : Int) = 1 from rfl]
          go_wp2_with fail
          rw [idx41_1]
          go_upto_region 10 with (fail)
          have hf10 := hfr2.alloc (.cells #[.int .i64 (umod a 5 : Int), .int .i64 (umod b 5 : Int)] 40)
          have HQ0 := hide (HZ.out.fr0 hf10)
          have HY : Hid (Blk (wr.alloc (.cells #[.int .i64 (umod a 5 : Int), .int .i64 (umod b 5 : Int)] 40)) wr.heap.size 40 #[.int .i64 (umod a 5 : Int), .int .i64 (umod b 5 : Int)]) := hide (Blk.new wr _ _)
          generalize wr.alloc (.cells #[.int .i64 (umod a 5 : Int), .int .i64 (umod b 5 : Int)] 40) = wb at hf10 HQ0 HY ⊢
          generalize wr.heap.size = gy at HY ⊢
          obtain ⟨c0, c1, c2, c3, c4, c5, c6, c7, c8, c9, c10, c11, c12⟩ := HQ0.out
          rw [HB0.out] at c1
          rw [HB1.out] at c2
          rw [HB2.out] at c3
          rw [HB3.out] at c4
          have cy0 := HY.out.cell 0
          have cy1 := HY.out.cell 1
          try simp only [List.getElem?_toArray, List.getElem?_cons_zero, List.getElem?_cons_succ] at cy0 cy1
          go_wp2_with fail
          rw [← HC2.out]
          refine (change27_any D rl (umod a 5 : Int) (umod b 5 : Int) wb ((HRA.out.fr0 hfq).fr0 hf10) HRN.out).mono ?_
          have hl1 := changeM_l1 HRN.out (umod a 5 : Int) (umod b 5 : Int)
          have hl2 := changeM_l2 HRN.out (umod a 5 : Int) (umod b 5 : Int)
          generalize hR : changeM rl (umod a 5 : Int) (umod b 5 : Int) = R at hl1 hl2 ⊢
          have HR := hide hR
          clear hR
          rintro e w5 ⟨v1, v2, rfl, ho1, ho2, hf5⟩
          clear cy0 cy1
          have cy0 := hf5.cell (HY.out.cell 0) (by simp)
          have cy1 := hf5.cell (HY.out.cell 1) (by simp)
          try simp only [List.getElem?_toArray, List.getElem?_cons_zero, List.getElem?_cons_succ] at cy0 cy1
          clear c0 c1 c2 c3 c4 c5 c6 c7 c8 c9 c10 c11 c12
          obtain ⟨c0, c1, c2, c3, c4, c5, c6, c7, c8, c9, c10, c11, c12⟩ := HQ0.out.fr0 hf5
          rw [HB0.out] at c1
          rw [HB1.out] at c2
          rw [HB2.out] at c3
          rw [HB3.out] at c4
          go_wp2_with fail
          rw [← HC2.out]
          refine (rchange27_any D rl (umod a 5 : Int) (umod b 5 : Int) w5 (((HRA.out.fr0 hfq).fr0 hf10).fr0 hf5) HRN.out).mono ?_
          rw [HR.out]
          rintro e w6 ⟨v3, v4, rfl, ho3, ho4, hf6⟩
          obtain ⟨Q1, p1, rfl, -, r1, -⟩ := own_slice ho1
          obtain ⟨Q2, p2, rfl, -, r2, -⟩ := own_slice ho2
          obtain ⟨Q3, p3, rfl, -, r3, -⟩ := own_slice ho3
          obtain ⟨Q4, p4, rfl, -, r4, -⟩ := own_slice ho4
          have HR1 := hide (r1.fr0 hf6)
          have HR2 := hide (r2.fr0 hf6)
          have HR3 := hide r3
          have HR4 := hide r4
          clear ho1 ho2 ho3 ho4 r1 r2 r3 r4 cy0 cy1 c0 c1 c2 c3 c4 c5 c6 c7 c8 c9 c10 c11 c12
          have hne : (R.2.2 != R.2.2) = false := by simp
          go_wp2_with fail
          refine (equalInts_any Q1 Q3 p1 p3 R.1 R.1 w6 HR1.out HR3.out hl1 hl1).mono ?_
          rintro e w7 ⟨rfl, hf7⟩
          rw [decide_eq_true rfl]
          go_wp2_with fail
          refine (equalInts_any Q2 Q4 p2 p4 R.2.1 R.2.1 w7 (HR2.out.fr0 hf7) (HR4.out.fr0 hf7) hl2 hl2).mono ?_
          rintro e w8 ⟨rfl, hf8⟩
          rw [decide_eq_true rfl]
          go_wp2
          go_roundg 0
          case measure => rw [HM2.out]; omega
          case rel => exact ⟨2, by omega, by go_num, (((hf10.call hf5).call hf6).call hf7).call hf8, rfl⟩
        · rw [show ((2 : Nat) : Int) = 2 from rfl]
          go_wp2
          go_roundg 0
          case measure => rw [HM.out]; omega
          case rel => exact ⟨2, by omega, by go_num, hfa.call hfr2, rfl⟩
    · rw [show ((2 : Nat) : Int) = 2 from rfl]
      go_wp2_with fail
      refine (awake27_any wr).mono ?_
      rintro e w9 ⟨rfl, hf9⟩
      go_wp2
      go_ret
      exact ⟨rfl, (hf02.call hfr).call hf9⟩
end Go.Proofs.Ytmkbahmjickoiaa
