/- The law DeviceChangeIsReversible. -/
import Derived.Test.YtmkbahmjickoiaaDevL0
namespace Go.Proofs.Ytmkbahmjickoiaa
open Go.RowKit

theorem someRl_asc (x : DV) (n k : Nat) : ascB (needL (someRl x n) k) = true := by
  unfold needL someRl
  split
  · decide
  · split
    · exact ascB_asc (ascL_asc _ _)
    · decide
theorem changeM_ok {rl : Nat → List Int} (h : ∀ k, ascB (needL rl k) = true) {a b : Nat} (ha : a ≤ 4) (hb : b ≤ 4) : changeM rl a b = (diffM (needL rl b) (needL rl a), (diffM (needL rl a) (needL rl b)).reverse, 0) := by
  unfold changeM
  rw [if_pos ⟨by omega, by omega, by omega, by omega⟩, Int.toNat_natCast, Int.toNat_natCast, if_pos ⟨h a, h b⟩]
theorem needL_len {rl : Nat → List Int} (h : ∀ k, (rl k).length ≤ 4096) (k : Nat) : (needL rl k).length ≤ 4096 := by
  unfold needL
  split
  · simp
  · exact h k
theorem diffM_len (l u : List Int) : (diffM l u).length ≤ l.length := List.length_filter_le _ _
theorem diffM_apart {l u : List Int} {x y : Int} (hx : x ∈ diffM l u) (hy : y ∈ diffM u l) : ¬ x = y := by
  rintro rfl
  unfold diffM at hx hy
  have h1 := (List.mem_filter.1 hx).2
  have h2 := (List.mem_filter.1 hy).1
  simp at h1
  exact h1 h2
def Cr1 (w : World) (n m : Nat) (i : Value) (wr : World) : Prop := ∃ k : Nat, k ≤ n ∧ i = .int .i64 (k : Int) ∧ Fr [] w wr ∧ m = n - k
set_option maxHeartbeats 8000000 in
set_option maxRecDepth 100000 in
theorem changeRev_any (x : DV) (a b : Int) (w : World) (hx : DvWf w x) :
    Calls Try.prog 7 #[.agg x.d.cells, .int .i64 a, .int .i64 b] w fun e w' => e = .returned (.bool true) ∧ Fr [] w w' := by
  have HX := hide hx
  obtain ⟨A0, Aq0, EA0, -⟩ := hx.1 0 (by omega)
  obtain ⟨A1, Aq1, EA1, -⟩ := hx.1 1 (by omega)
  obtain ⟨A2, Aq2, EA2, -⟩ := hx.1 2 (by omega)
  obtain ⟨A3, Aq3, EA3, -⟩ := hx.1 3 (by omega)
  have HA0 := hide EA0
  have HA1 := hide EA1
  have HA2 := hide EA2
  have HA3 := hide EA3
  clear EA0 EA1 EA2 EA3
  have HC : Hid (x.d.cells = #[.int .i64 x.d.par, .slice A0 (x.rl 0).length Aq0, .slice A1 (x.rl 1).length Aq1, .slice A2 (x.rl 2).length Aq2, .slice A3 (x.rl 3).length Aq3, .int .i64 (x.d.df 0), .int .i64 (x.d.df 1), .int .i64 (x.d.df 2), .int .i64 (x.d.df 3), .int .i64 (x.d.df 4), .int .i64 (x.d.df 5), .int .i64 x.d.wd, .int .i64 x.d.ws]) := hide (by simp only [PD.cells, HA0.out, HA1.out, HA2.out, HA3.out])
  clear hx
  rw [HC.out]
  go_enter Try.func7, Try.ntmps7
  go_wp2_with fail
  rw [← HC.out]
  have hp0 := PD13.new w 33 x.d
  have hf0 : Fr [] w (w.alloc (.cells x.d.cells 33)) := (Fr.refl _ _).alloc _
  have hp1 := hp0.fr0 ((Fr.refl [] _).alloc (.cells x.d.cells 33))
  have hf1 := hf0.alloc (.cells x.d.cells 33)
  have HXa := hide (HX.out.fr0 hf1)
  have HDV : Hid (DvsAt ((w.alloc (.cells x.d.cells 33)).alloc (.cells x.d.cells 33)) (some ⟨w.heap.size + 1, 0, none⟩) [x]) := hide ⟨by
    have := row_lit (w.alloc (.cells x.d.cells 33)) x.d.cells 33 rfl
    simpa [dvcs, dvc] using this, fun y hy => by rw [List.mem_singleton.1 hy]; exact HXa.out.1⟩
  clear hp0
  generalize ((w.alloc (.cells x.d.cells 33)).alloc (.cells x.d.cells 33)) = wa at hp1 hf1 HXa HDV ⊢
  generalize w.heap.size = g at hp1 HDV ⊢
  have HP := hide hp1
  clear hp1
  refine (large27_any (some ⟨g + 1, 0, none⟩) 1 [x] wa HDV.out (by simp [maxLen])).mono ?_
  rintro e w1 ⟨big, rfl, hlg, rfl⟩
  cases big with
  | true =>
    go_wp2_with fail
    refine (awake27_any wa).mono ?_
    rintro e w7 ⟨rfl, hf7⟩
    go_wp2
    go_ret
    exact ⟨rfl, hf1.call hf7⟩
  | false =>
  have HLG : Hid (∀ k, (x.rl k).length ≤ 4096) := hide (fun k => by
    by_cases h : k < 4
    · have := (hlg rfl).2 x (List.mem_singleton.2 rfl) k h
      omega
    · rw [HX.out.2.2 k (by omega)]
      simp)
  clear hlg
  obtain ⟨c0, c1, c2, c3, c4, c5, c6, c7, c8, c9, c10, c11, c12⟩ := HP.out
  rw [HA0.out] at c1
  rw [HA1.out] at c2
  rw [HA2.out] at c3
  rw [HA3.out] at c4
  go_wp2_with fail
  rw [← HC.out]
  have hf2 := (Fr.refl [] wa).alloc (.cells x.d.cells 33)
  refine (some_at x 5 wa.heap.size wa rfl HXa.out (by omega)).mono ?_
  rintro e w2 ⟨⟨ob, oo, sp⟩, cp, rf, rfl, hra, hpd, hsp, -, hf3⟩
  cases hsp
  have hfa2 := hf2.call hf3
  have hf02 := hf1.call hfa2
  have HPD := hide hpd
  have HRA := hide hra
  have HP2 := hide (HP.out.fr0 hfa2)
  have HX2 := hide (HX.out.fr0 hf02)
  obtain ⟨B0, Bq0, EB0, -⟩ := hra 0 (by omega)
  obtain ⟨B1, Bq1, EB1, -⟩ := hra 1 (by omega)
  obtain ⟨B2, Bq2, EB2, -⟩ := hra 2 (by omega)
  obtain ⟨B3, Bq3, EB3, -⟩ := hra 3 (by omega)
  have HB0 := hide EB0
  have HB1 := hide EB1
  have HB2 := hide EB2
  have HB3 := hide EB3
  clear EB0 EB1 EB2 EB3
  have HC2 : Hid ((someP x 0 rf).cells = #[.int .i64 (someP x 0 rf).par, .slice B0 (someRl x 5 0).length Bq0, .slice B1 (someRl x 5 1).length Bq1, .slice B2 (someRl x 5 2).length Bq2, .slice B3 (someRl x 5 3).length Bq3, .int .i64 ((someP x 0 rf).df 0), .int .i64 ((someP x 0 rf).df 1), .int .i64 ((someP x 0 rf).df 2), .int .i64 ((someP x 0 rf).df 3), .int .i64 ((someP x 0 rf).df 4), .int .i64 ((someP x 0 rf).df 5), .int .i64 (someP x 0 rf).wd, .int .i64 (someP x 0 rf).ws]) := hide (by simp only [PD.cells, HB0.out, HB1.out, HB2.out, HB3.out])
  have HRN : Hid (∀ k, (someRl x 5 k).length ≤ 4096) := hide (fun k => someRl_len x 5 k)
  have HAS : Hid (∀ k, ascB (needL (someRl x 5) k) = true) := hide (fun k => someRl_asc x 5 k)
  clear hpd hra hf0 hf1 hf2 hf3 hfa2 HXa HX HP HDV c0 c1 c2 c3 c4 c5 c6 c7 c8 c9 c10 c11 c12
  generalize someP x 0 rf = D at HPD HRA HB0 HB1 HB2 HB3 HC2
  generalize someRl x 5 = rl at HRA HB0 HB1 HB2 HB3 HC2 HRN HAS
  obtain ⟨i, hi⟩ : ∃ i, i = umod a 5 := ⟨_, rfl⟩
  obtain ⟨j, hj⟩ : ∃ j, j = umod b 5 := ⟨_, rfl⟩
  have hi5 : i ≤ 4 := by have := umod_lt a (show 0 < 5 by omega); omega
  have hj5 : j ≤ 4 := by have := umod_lt b (show 0 < 5 by omega); omega
  have HI := hide hi
  have HJ := hide hj
  clear hi hj
  go_wp2_with fail
  refine (mod_int a 5 w2 (by omega) (by omega)).mono ?_
  rintro e w' ⟨rfl, rfl⟩
  rw [show (5 : Int).toNat = 5 from rfl, ← HI.out]
  go_wp2_with fail
  refine (mod_int b 5 w2 (by omega) (by omega)).mono ?_
  rintro e w' ⟨rfl, rfl⟩
  rw [show (5 : Int).toNat = 5 from rfl, ← HJ.out]
  obtain ⟨d0, d1, d2, d3, d4, d5, d6, d7, d8, d9, d10, d11, d12⟩ := HPD.out
  rw [HB0.out] at d1
  rw [HB1.out] at d2
  rw [HB2.out] at d3
  rw [HB3.out] at d4
  go_wp2_with fail
  rw [← HC2.out]
  refine (change27_any D rl i j w2 HRA.out HRN.out).mono ?_
  rw [changeM_ok HAS.out hi5 hj5]
  rintro e w3 ⟨v1, v2, rfl, ho1, ho2, hf3⟩
  clear d0 d1 d2 d3 d4 d5 d6 d7 d8 d9 d10 d11 d12
  obtain ⟨d0, d1, d2, d3, d4, d5, d6, d7, d8, d9, d10, d11, d12⟩ := HPD.out.fr0 hf3
  rw [HB0.out] at d1
  rw [HB1.out] at d2
  rw [HB2.out] at d3
  rw [HB3.out] at d4
  go_wp2_with fail
  rw [← HC2.out]
  refine (change27_any D rl j i w3 (HRA.out.fr0 hf3) HRN.out).mono ?_
  rw [changeM_ok HAS.out hj5 hi5]
  rintro e w4 ⟨v3, v4, rfl, ho3, ho4, hf4⟩
  clear d0 d1 d2 d3 d4 d5 d6 d7 d8 d9 d10 d11 d12
  have hPl : (diffM (needL rl j) (needL rl i)).length ≤ 4096 := Nat.le_trans (diffM_len _ _) (needL_len HRN.out _)
  have hQl : (diffM (needL rl i) (needL rl j)).length ≤ 4096 := Nat.le_trans (diffM_len _ _) (needL_len HRN.out _)
  have HAP : Hid (∀ u v, u ∈ diffM (needL rl j) (needL rl i) → v ∈ diffM (needL rl i) (needL rl j) → ¬ u = v) := hide (fun u v hu hv => diffM_apart hu hv)
  obtain ⟨A1, p1, rfl, -, r1, -⟩ := own_slice ho1
  obtain ⟨A2, p2, rfl, -, r2, -⟩ := own_slice ho2
  obtain ⟨A3, p3, rfl, -, r3, -⟩ := own_slice ho3
  obtain ⟨A4, p4, rfl, -, r4, -⟩ := own_slice ho4
  have HR1 := hide (r1.fr0 hf4)
  have HR2 := hide (r2.fr0 hf4)
  have HR3 := hide r3
  have HR4 := hide r4
  have hf04 := hf02.call (hf3.call hf4)
  clear ho1 ho2 ho3 ho4 r1 r2 r3 r4 hf02 hf3 hf4
  dsimp only at HR1 HR2 HR3 HR4 ⊢
  generalize diffM (needL rl j) (needL rl i) = P at HR1 HR2 HR3 HR4 hPl HAP ⊢
  generalize diffM (needL rl i) (needL rl j) = Q at HR1 HR2 HR3 HR4 hQl HAP ⊢
  have HAQ : Hid (∀ u v, u ∈ P → v ∈ Q.reverse → ¬ u = v) := hide (fun u v hu hv => HAP.out u v hu (List.mem_reverse.1 hv))
  have hQl' : Q.reverse.length ≤ 4096 := by rw [List.length_reverse]; exact hQl
  have hPl' : P.reverse.length ≤ 4096 := by rw [List.length_reverse]; exact hPl
  have HPR : Hid (P.reverse.reverse = P) := hide (List.reverse_reverse _)
  have HQR : Hid (Q.reverse = Q.reverse) := hide rfl
  clear HAP
  generalize P.reverse = PR at HR4 hPl' HPR ⊢
  generalize hQQ : Q.reverse = R at HR2 HAQ hQl' HQR ⊢
  have HQ2 := hide hQQ
  clear hQQ HQR
  go_wp2_with fail
  refine (rev27_any A4 p4 PR w4 HR4.out hPl').mono ?_
  rw [HPR.out]
  rintro e w5 ⟨v5, rfl, ho5, hf5⟩
  obtain ⟨A5, p5, rfl, -, r5, -⟩ := own_slice ho5
  have HR5 := hide r5
  clear ho5 r5
  go_wp2_with fail
  refine (equalInts_any A1 A5 p1 p5 P P w5 (HR1.out.fr0 hf5) HR5.out hPl hPl).mono ?_
  rintro e w6 ⟨rfl, hf6⟩
  rw [decide_eq_true rfl]
  have hf46 := hf5.call hf6
  go_wp2_with fail
  refine (rev27_any A3 p3 Q w6 (HR3.out.fr0 hf46) hQl).mono ?_
  rw [HQ2.out]
  rintro e w7 ⟨v7, rfl, ho7, hf7⟩
  obtain ⟨A7, p7, rfl, -, r7, -⟩ := own_slice ho7
  have HR7 := hide r7
  have hf47 := hf46.call hf7
  clear ho7 r7 hf5 hf6 hf7
  go_wp2_with fail
  refine (equalInts_any A2 A7 p2 p7 R R w7 (HR2.out.fr0 hf47) HR7.out hQl' hQl').mono ?_
  rintro e w8 ⟨rfl, hf8⟩
  rw [decide_eq_true rfl]
  have hf48 := hf47.call hf8
  have HP8 := hide (HR1.out.fr0 hf48)
  have HQ8 := hide (HR2.out.fr0 hf48)
  have hf08 := hf04.call hf48
  clear HR1 HR2 HR3 HR4 HR5 HR7 hf8 hf46 hf47 hf48 hf04 hQl
  go_wp2
  go_loopg [16] P.length (fun m i wr => Cr1 w8 P.length m i wr)
  case atStart => exact ⟨0, by omega, rfl, Fr.refl _ _, rfl⟩
  case round =>
    obtain ⟨k, hk, rfl, hfr, hmm⟩ := hrel
    have HM := hide hmm
    clear hmm
    by_cases hlt : k < P.length
    · have hkl : (k : Int) < (P.length : Int) := by omega
      obtain ⟨wq, hwq⟩ : ∃ wq, wq = wr := ⟨_, rfl⟩
      subst hwq
      go_wp2
      go_loopg [17] R.length (fun m i wr => Cr1 wq R.length m i wr)
      case atStart => exact ⟨0, by omega, rfl, Fr.refl _ _, rfl⟩
      case round =>
        obtain ⟨t, ht, rfl, hfr2, hmm⟩ := hrel
        have HM2 := hide hmm
        clear hmm
        by_cases hlt2 : t < R.length
        · have htl : (t : Int) < (R.length : Int) := by omega
          obtain ⟨u, hu⟩ : ∃ u, P[k]? = some u := ⟨_, List.getElem?_eq_getElem hlt⟩
          obtain ⟨v, hv⟩ : ∃ v, R[t]? = some v := ⟨_, List.getElem?_eq_getElem hlt2⟩
          have hne : (u == v) = false := by simp; exact HAQ.out u v (List.mem_of_getElem? hu) (List.mem_of_getElem? hv)
          obtain ⟨ob1, oo1, rfl, c1⟩ := (HP8.out.fr0 (hfr.call hfr2)).int hu
          obtain ⟨ob2, oo2, rfl, c2⟩ := (HQ8.out.fr0 (hfr.call hfr2)).int hv
          clear hu hv
          go_wp2_with fail
          go_quiet (fail)
          go_wp2
          go_roundg (R.length - (t + 1))
          case measure => rw [HM2.out]; omega
          case rel => exact ⟨t + 1, by omega, by go_num, hfr2.drewN _, rfl⟩
        · have htl : ¬ (t : Int) < (R.length : Int) := by omega
          go_wp2
          go_roundg (P.length - (k + 1))
          case measure => rw [HM.out]; omega
          case rel => exact ⟨k + 1, by omega, by go_num, hfr.call hfr2, rfl⟩
    · have hkl : ¬ (k : Int) < (P.length : Int) := by omega
      go_wp2_with fail
      refine (awake27_any wr).mono ?_
      rintro e w9 ⟨rfl, hf9⟩
      go_wp2
      go_ret
      exact ⟨rfl, (hf08.call hfr).call hf9⟩
end Go.Proofs.Ytmkbahmjickoiaa
