/- The law DeviceTargetAgrees. -/
import Derived.Test.YtmkbahmjickoiaaDevL0
import Derived.Test.YtmkbahmjickoiaaDevW1
namespace Go.Proofs.Ytmkbahmjickoiaa
open Go.RowKit

set_option maxHeartbeats 8000000 in
set_option maxRecDepth 100000 in
theorem targetAgrees_any (x : DV) (s : Int) (wake : Bool) (w : World) (hx : DvWf w x) :
    Calls Try.prog 4 #[.agg x.d.cells, .int .i64 s, .bool wake] w fun e w' => e = .returned (.bool true) ∧ Fr [] w w' := by
  have HX := hide hx
  obtain ⟨A0, Aq0, EA0, -⟩ := hx.1 0 (by omega)
  obtain ⟨A1, Aq1, EA1, -⟩ := hx.1 1 (by omega)
  obtain ⟨A2, Aq2, EA2, -⟩ := hx.1 2 (by omega)
  obtain ⟨A3, Aq3, EA3, -⟩ := hx.1 3 (by omega)
  have HA0 := hide EA0
  have HA1 := hide EA1
  have HA2 := hide EA2
  have HA3 := hide EA3
  clear EA0 EA1 EA2 EA3
  have HC : Hid (x.d.cells = #[.int .i64 x.d.par, .slice A0 (x.rl 0).length Aq0, .slice A1 (x.rl 1).length Aq1, .slice A2 (x.rl 2).length Aq2, .slice A3 (x.rl 3).length Aq3, .int .i64 (x.d.df 0), .int .i64 (x.d.df 1), .int .i64 (x.d.df 2), .int .i64 (x.d.df 3), .int .i64 (x.d.df 4), .int .i64 (x.d.df 5), .int .i64 x.d.wd, .int .i64 x.d.ws]) := hide (by simp only [PD.cells, HA0.out, HA1.out, HA2.out, HA3.out])
  clear hx
  rw [HC.out]
  go_enter Try.func4, Try.ntmps4
  go_wp2_with fail
  rw [← HC.out]
  have hp0 := PD13.new w 33 x.d
  have hf0 : Fr [] w (w.alloc (.cells x.d.cells 33)) := (Fr.refl _ _).alloc _
  have HP := hide (hp0.fr0 ((Fr.refl [] _).alloc (.cells x.d.cells 33)))
  have hf1 := hf0.alloc (.cells x.d.cells 33)
  have HXa := hide (HX.out.fr0 hf0)
  clear hp0
  refine (some_at x 3 (w.heap.size + 1) (w.alloc (.cells x.d.cells 33)) (by simp) HXa.out (by omega)).mono ?_
  rintro e w2 ⟨⟨ob, oo, sp⟩, cp, rf, rfl, hra, hpd, hsp, -, hf2⟩
  cases hsp
  have HP2 := hide (HP.out.fr0 hf2)
  have hf02 := hf1.call hf2
  have HPD := hide hpd
  obtain ⟨B0, Bq0, EB0, -⟩ := hra 0 (by omega)
  obtain ⟨B1, Bq1, EB1, -⟩ := hra 1 (by omega)
  obtain ⟨B2, Bq2, EB2, -⟩ := hra 2 (by omega)
  obtain ⟨B3, Bq3, EB3, -⟩ := hra 3 (by omega)
  have HB0 := hide EB0
  have HB1 := hide EB1
  have HB2 := hide EB2
  have HB3 := hide EB3
  clear EB0 EB1 EB2 EB3
  clear hpd hra HP hf0 hf1 hf2 HXa
  generalize w.heap.size = g at HP2 ⊢
  go_wp2_with fail
  refine (mod_int s 6 w2 (by omega) (by omega)).mono ?_
  rintro e w' ⟨rfl, rfl⟩
  obtain ⟨c0, c1, c2, c3, c4, c5, c6, c7, c8, c9, c10, c11, c12⟩ := HP2.out
  rw [HA0.out] at c1
  rw [HA1.out] at c2
  rw [HA2.out] at c3
  rw [HA3.out] at c4
  go_wp2_with fail
  rw [← HC.out]
  refine (target27_any x.d s wake w2).mono ?_
  rintro e w3 ⟨rfl, hf3⟩
  clear c0 c1 c2 c3 c4 c5 c6 c7 c8 c9 c10 c11 c12
  obtain ⟨c0, c1, c2, c3, c4, c5, c6, c7, c8, c9, c10, c11, c12⟩ := HP2.out.fr0 hf3
  rw [HA0.out] at c1
  rw [HA1.out] at c2
  rw [HA2.out] at c3
  rw [HA3.out] at c4
  go_wp2_with fail
  rw [← HC.out]
  refine (rtarget27_any x.d s wake w3).mono ?_
  rintro e w4 ⟨rfl, hf4⟩
  clear c0 c1 c2 c3 c4 c5 c6 c7 c8 c9 c10 c11 c12
  have hf24 := hf3.call hf4
  obtain ⟨d0, d1, d2, d3, d4, d5, d6, d7, d8, d9, d10, d11, d12⟩ := HPD.out.fr0 hf24
  rw [HB0.out] at d1
  rw [HB1.out] at d2
  rw [HB2.out] at d3
  rw [HB3.out] at d4
  have HC2 : Hid ((someP x 0 rf).cells = #[.int .i64 (someP x 0 rf).par, .slice B0 (someRl x 3 0).length Bq0, .slice B1 (someRl x 3 1).length Bq1, .slice B2 (someRl x 3 2).length Bq2, .slice B3 (someRl x 3 3).length Bq3, .int .i64 ((someP x 0 rf).df 0), .int .i64 ((someP x 0 rf).df 1), .int .i64 ((someP x 0 rf).df 2), .int .i64 ((someP x 0 rf).df 3), .int .i64 ((someP x 0 rf).df 4), .int .i64 ((someP x 0 rf).df 5), .int .i64 (someP x 0 rf).wd, .int .i64 (someP x 0 rf).ws]) := hide (by simp only [PD.cells, HB0.out, HB1.out, HB2.out, HB3.out])
  go_wp2_with fail
  rw [← HC2.out]
  refine (target27_any (someP x 0 rf) _ wake w4).mono ?_
  rintro e w5 ⟨rfl, hf5⟩
  clear d0 d1 d2 d3 d4 d5 d6 d7 d8 d9 d10 d11 d12
  obtain ⟨d0, d1, d2, d3, d4, d5, d6, d7, d8, d9, d10, d11, d12⟩ := HPD.out.fr0 (hf24.call hf5)
  rw [HB0.out] at d1
  rw [HB1.out] at d2
  rw [HB2.out] at d3
  rw [HB3.out] at d4
  go_wp2_with fail
  rw [← HC2.out]
  refine (rtarget27_any (someP x 0 rf) _ wake w5).mono ?_
  rintro e w6 ⟨rfl, hf6⟩
  clear d0 d1 d2 d3 d4 d5 d6 d7 d8 d9 d10 d11 d12
  have hf06 := hf02.call ((hf24.call hf5).call hf6)
  go_wp2_with fail
  refine (awake27_any w6).mono ?_
  rintro e w7 ⟨rfl, hf7⟩
  go_wp2
  go_ret
  exact ⟨rfl, hf06.call hf7⟩
end Go.Proofs.Ytmkbahmjickoiaa
