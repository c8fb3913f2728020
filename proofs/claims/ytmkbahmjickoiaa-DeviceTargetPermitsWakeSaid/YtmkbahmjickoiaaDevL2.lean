/- The law DeviceTargetPermitsWake. -/
import Derived.Test.YtmkbahmjickoiaaDevL0
namespace Go.Proofs.Ytmkbahmjickoiaa
open Go.RowKit

theorem dfM_mono (f : Nat → Int) (k : Nat) : dfM f k ≤ dfM f (k + 1) := by
  show dfM f k ≤ max (dfM f k) _
  omega
def TpCut (w2 : World) (d : PD) (sv : Nat) (s6 s7 : Value) (wx : World) : Prop := s6 = .pointer (some ⟨w2.heap.size, 0, none⟩) ∧ s7 = .int .i64 (sv : Int) ∧ Blk wx w2.heap.size 33 d.cells ∧ Fr [] w2 wx
set_option maxHeartbeats 8000000 in
set_option maxRecDepth 100000 in
theorem targetPermits_any (x : DV) (s : Int) (w : World) (hx : DvWf w x) :
    Calls Try.prog 5 #[.agg x.d.cells, .int .i64 s] w fun e w' => e = .returned (.bool true) ∧ Fr [] w w' := by
  have HX := hide hx
  obtain ⟨A0, Aq0, EA0, -⟩ := hx.1 0 (by omega)
  obtain ⟨A1, Aq1, EA1, -⟩ := hx.1 1 (by omega)
  obtain ⟨A2, Aq2, EA2, -⟩ := hx.1 2 (by omega)
  obtain ⟨A3, Aq3, EA3, -⟩ := hx.1 3 (by omega)
  have HA0 := hide EA0
  have HA1 := hide EA1
  have HA2 := hide EA2
  have HA3 := hide EA3
  clear EA0 EA1 EA2 EA3
  have HC : Hid (x.d.cells = #[.int .i64 x.d.par, .slice A0 (x.rl 0).length Aq0, .slice A1 (x.rl 1).length Aq1, .slice A2 (x.rl 2).length Aq2, .slice A3 (x.rl 3).length Aq3, .int .i64 (x.d.df 0), .int .i64 (x.d.df 1), .int .i64 (x.d.df 2), .int .i64 (x.d.df 3), .int .i64 (x.d.df 4), .int .i64 (x.d.df 5), .int .i64 x.d.wd, .int .i64 x.d.ws]) := hide (by simp only [PD.cells, HA0.out, HA1.out, HA2.out, HA3.out])
  clear hx
  rw [HC.out]
  go_enter Try.func5, Try.ntmps5
  go_wp2_with fail
  rw [← HC.out]
  have hf0 : Fr [] w (w.alloc (.cells x.d.cells 33)) := (Fr.refl _ _).alloc _
  have hf1 := hf0.alloc (.cells x.d.cells 33)
  have HXa := hide (HX.out.fr0 hf0)
  refine (some_at x 3 (w.heap.size + 1) (w.alloc (.cells x.d.cells 33)) (by simp) HXa.out (by omega)).mono ?_
  rintro e w2 ⟨⟨ob, oo, sp⟩, cp, rf, rfl, hra, hpd, hsp, -, hf2⟩
  cases hsp
  have hf02 := hf1.call hf2
  have HPD := hide hpd
  obtain ⟨B0, Bq0, EB0, -⟩ := hra 0 (by omega)
  obtain ⟨B1, Bq1, EB1, -⟩ := hra 1 (by omega)
  obtain ⟨B2, Bq2, EB2, -⟩ := hra 2 (by omega)
  obtain ⟨B3, Bq3, EB3, -⟩ := hra 3 (by omega)
  have HB0 := hide EB0
  have HB1 := hide EB1
  have HB2 := hide EB2
  have HB3 := hide EB3
  clear EB0 EB1 EB2 EB3
  have HC2 : Hid ((someP x 0 rf).cells = #[.int .i64 (someP x 0 rf).par, .slice B0 (someRl x 3 0).length Bq0, .slice B1 (someRl x 3 1).length Bq1, .slice B2 (someRl x 3 2).length Bq2, .slice B3 (someRl x 3 3).length Bq3, .int .i64 ((someP x 0 rf).df 0), .int .i64 ((someP x 0 rf).df 1), .int .i64 ((someP x 0 rf).df 2), .int .i64 ((someP x 0 rf).df 3), .int .i64 ((someP x 0 rf).df 4), .int .i64 ((someP x 0 rf).df 5), .int .i64 (someP x 0 rf).wd, .int .i64 (someP x 0 rf).ws]) := hide (by simp only [PD.cells, HB0.out, HB1.out, HB2.out, HB3.out])
  clear hpd hra hf0 hf1 hf2 HXa HC HA0 HA1 HA2 HA3
  obtain ⟨k, hk⟩ : ∃ k, k = umod s 6 := ⟨_, rfl⟩
  have hk6 : k < 6 := by rw [hk]; exact umod_lt s (by omega)
  go_upto_region 2 with (fail)
  generalize w.heap.size = g0
  have hob : w2.heap.size ≠ ob := by
    have := World.block_lt_of_cell? w2 _ HPD.out.1
    exact fun e => absurd this (by show ¬ ob < w2.heap.size; omega)
  obtain ⟨d0, d1, d2, d3, d4, d5, d6, d7, d8, d9, d10, d11, d12⟩ := HPD.out
  rw [HB0.out] at d1
  rw [HB1.out] at d2
  rw [HB2.out] at d3
  rw [HB3.out] at d4
  go_cut [6, 7] (fun s6 s7 wx => TpCut w2 (someP x 0 rf) k s6 s7 wx)
  case first =>
    go_region_held3 (fun w' => w'.cell? ⟨ob, oo, none⟩ = some (.int .i64 (someP x 0 rf).par) ∧ w'.cell? ⟨ob, oo + 1, none⟩ = some (.slice B0 (someRl x 3 0).length Bq0) ∧ w'.cell? ⟨ob, oo + 2, none⟩ = some (.slice B1 (someRl x 3 1).length Bq1) ∧ w'.cell? ⟨ob, oo + 3, none⟩ = some (.slice B2 (someRl x 3 2).length Bq2) ∧ w'.cell? ⟨ob, oo + 4, none⟩ = some (.slice B3 (someRl x 3 3).length Bq3) ∧ w'.cell? ⟨ob, oo + 5, none⟩ = some (.int .i64 ((someP x 0 rf).df 0)) ∧ w'.cell? ⟨ob, oo + 6, none⟩ = some (.int .i64 ((someP x 0 rf).df 1)) ∧ w'.cell? ⟨ob, oo + 7, none⟩ = some (.int .i64 ((someP x 0 rf).df 2)) ∧ w'.cell? ⟨ob, oo + 8, none⟩ = some (.int .i64 ((someP x 0 rf).df 3)) ∧ w'.cell? ⟨ob, oo + 9, none⟩ = some (.int .i64 ((someP x 0 rf).df 4)) ∧ w'.cell? ⟨ob, oo + 10, none⟩ = some (.int .i64 ((someP x 0 rf).df 5)) ∧ w'.cell? ⟨ob, oo + 11, none⟩ = some (.int .i64 (someP x 0 rf).wd) ∧ w'.cell? ⟨ob, oo + 12, none⟩ = some (.int .i64 (someP x 0 rf).ws)) (go_keep) (first | (go_at_call 10; refine (mod_int _ _ _ (by omega) (by omega)).mono ?_; rintro e w' ⟨rfl, rfl⟩))
    all_goals
      go_wp2_with fail
      go_meet
      refine ⟨rfl, by rw [hk], ?_, ?_⟩
      · rw [HC2.out]
        exact Blk.fr (S := []) (Blk.new w2 _ _) (Fr.refl _ _).drew (by simp)
      · exact ((Fr.refl _ _).alloc _).drew
  case rest =>
    obtain ⟨rfl, rfl, hblk, hfx⟩ := hcut
    have HBK := hide hblk
    have hfc := hf02.call hfx
    clear hblk d0 d1 d2 d3 d4 d5 d6 d7 d8 d9 d10 d11 d12 hob hk HPD hf02 hfx
    generalize w2.heap.size = g at HBK ⊢
    clear w2
    have HP : Hid (PD13 wc g (someP x 0 rf)) := hide (by
      have h := HBK.out
      exact ⟨h.cell 0, h.cell 1, h.cell 2, h.cell 3, h.cell 4, h.cell 5, h.cell 6, h.cell 7, h.cell 8, h.cell 9, h.cell 10, h.cell 11, h.cell 12⟩)
    have HDK : Hid (wc.cell? ⟨g, 5 + k, none⟩ = some (.int .i64 ((someP x 0 rf).df k))) := hide ((HBK.out.cell (5 + k)).trans (PD.deep (someP x 0 rf) hk6))
    have HMO : Hid (∀ p : Nat, k = p + 1 → (someP x 0 rf).df p ≤ (someP x 0 rf).df k) := hide (fun p hp => by rw [hp]; exact dfM_mono _ _)
    clear HBK
    generalize someP x 0 rf = D at HP HDK HMO HB0 HB1 HB2 HB3 HC2
    have HT : Hid (targetM D (k : Int) true = if D.ws < (k : Int) then (0, 13) else (min (D.df k) D.wd, 0)) := hide (by
      unfold targetM
      rw [if_neg (by omega), if_neg (by decide), Int.toNat_natCast])
    have HF : Hid (∀ p : Nat, p < 6 → targetM D (p : Int) false = (D.df p, 0)) := hide (fun p hp => by
      unfold targetM
      rw [if_neg (by omega), if_pos rfl, Int.toNat_natCast])
    obtain ⟨c0, c1, c2, c3, c4, c5, c6, c7, c8, c9, c10, c11, c12⟩ := HP.out
    rw [HB0.out] at c1
    rw [HB1.out] at c2
    rw [HB2.out] at c3
    rw [HB3.out] at c4
    go_wp2_with fail
    rw [← HC2.out]
    refine (target27_any D _ true wc).mono ?_
    have HTR : Hid ((D.ws < (k : Int) ∧ (targetM D (k : Int) true).2 = 13) ∨ (¬ D.ws < (k : Int) ∧ (targetM D (k : Int) true).2 = 0 ∧ (targetM D (k : Int) true).1 = min (D.df k) D.wd)) := hide (by
      rw [HT.out]
      by_cases h : D.ws < (k : Int)
      · rw [if_pos h]; exact .inl ⟨h, rfl⟩
      · rw [if_neg h]; exact .inr ⟨h, rfl, rfl⟩)
    generalize targetM D (k : Int) true = R at HTR ⊢
    obtain ⟨ra, re⟩ := R
    rintro e w3 ⟨rfl, hf3⟩
    clear c0 c1 c2 c3 c4 c5 c6 c7 c8 c9 c10 c11 c12
    obtain ⟨c0, c1, c2, c3, c4, c5, c6, c7, c8, c9, c10, c11, c12⟩ := HP.out.fr0 hf3
    rw [HB0.out] at c1
    rw [HB1.out] at c2
    rw [HB2.out] at c3
    rw [HB3.out] at c4
    go_wp2_with fail
    rw [← HC2.out]
    refine (target27_any D _ false w3).mono ?_
    rintro e w4 ⟨rfl, hf4⟩
    rw [HF.out k hk6]
    clear c0 c1 c2 c3 c4 c5 c6 c7 c8 c9 c10 c11 c12
    have hf24 := hf3.call hf4
    have hf04 := hfc.call hf24
    have c5k := hf24.cell HDK.out (by simp)
    obtain ⟨c0, c1, c2, c3, c4, c5, c6, c7, c8, c9, c10, c11, c12⟩ := HP.out.fr0 hf24
    rw [HB0.out] at c1
    rw [HB1.out] at c2
    rw [HB2.out] at c3
    rw [HB3.out] at c4
    have hki : (k : Int) < 6 := by omega
    have hki0 : (0 : Int) ≤ (k : Int) := by omega
    have HB : Hid (∀ a : Int, a = min (D.df k) D.wd → ¬ D.wd < a ∧ ¬ D.df k < a ∧ (a = D.wd ∨ a = D.df k)) := hide (fun a ha => by omega)
    clear HT HDK
    dsimp only
    rcases (show k = 0 ∨ ∃ p, k = p + 1 by cases k with | zero => exact .inl rfl | succ p => exact .inr ⟨p, rfl⟩) with hk0 | ⟨p, hp⟩
    · have hkz : ¬ (0 : Int) < (k : Int) := by omega
      clear hk0
      rcases HTR.out with ⟨hws, hre⟩ | ⟨hws, hre, hra⟩
      · subst hre
        have hle : ¬ (k : Int) ≤ D.ws := by omega
        go_wp2_with fail
        refine (awake27_any w4).mono ?_
        rintro e w7 ⟨rfl, hf7⟩
        go_wp2
        go_ret
        exact ⟨rfl, hf04.call hf7⟩
      · subst hre
        have hle : (k : Int) ≤ D.ws := by omega
        obtain ⟨h1, h2, h3⟩ := HB.out _ hra
        clear hra
        generalize ra = a at h1 h2 h3 ⊢
        by_cases e1 : a = D.wd
        · have hb1 : (a != D.wd) = false := by simp [e1]
          clear e1 h3
          go_wp2_with fail
          refine (awake27_any w4).mono ?_
          rintro e w7 ⟨rfl, hf7⟩
          go_wp2
          go_ret
          exact ⟨rfl, hf04.call hf7⟩
        · have hb1 : (a != D.wd) = true := by simp [e1]
          have hb2 : (a != D.df k) = false := by simp; omega
          clear e1 h3
          go_wp2_with fail
          refine (awake27_any w4).mono ?_
          rintro e w7 ⟨rfl, hf7⟩
          go_wp2
          go_ret
          exact ⟨rfl, hf04.call hf7⟩
    · have hkz : (0 : Int) < (k : Int) := by omega
      have hwp : IntKind.i64.wrap ((k : Int) - 1) = (p : Int) := by rw [IntWalk.i64_in _ (by omega)]; omega
      have HPP := hide (HMO.out p hp)
      have HP6 : Hid (p < 6) := hide (by omega)
      clear hp
      rcases HTR.out with ⟨hws, hre⟩ | ⟨hws, hre, hra⟩
      · subst hre
        have hle : ¬ (k : Int) ≤ D.ws := by omega
        go_wp2_with fail
        rw [← HC2.out]
        refine (target27_any D _ false w4).mono ?_
        rintro e w5 ⟨rfl, hf5⟩
        rw [HF.out p HP6.out]
        have hcb : ¬ D.df k < D.df p := by have := HPP.out; omega
        have hf05 := hf04.call hf5
        clear c0 c1 c2 c3 c4 c5 c6 c7 c8 c9 c10 c11 c12
        go_wp2_with fail
        refine (awake27_any w5).mono ?_
        rintro e w7 ⟨rfl, hf7⟩
        go_wp2
        go_ret
        exact ⟨rfl, hf05.call hf7⟩
      · subst hre
        have hle : (k : Int) ≤ D.ws := by omega
        obtain ⟨h1, h2, h3⟩ := HB.out _ hra
        clear hra
        generalize ra = a at h1 h2 h3 ⊢
        by_cases e1 : a = D.wd
        · have hb1 : (a != D.wd) = false := by simp [e1]
          clear e1 h3
          go_wp2_with fail
          rw [← HC2.out]
          refine (target27_any D _ false w4).mono ?_
          rintro e w5 ⟨rfl, hf5⟩
          rw [HF.out p HP6.out]
          have hcb : ¬ D.df k < D.df p := by have := HPP.out; omega
          have hf05 := hf04.call hf5
          clear c0 c1 c2 c3 c4 c5 c6 c7 c8 c9 c10 c11 c12
          go_wp2_with fail
          refine (awake27_any w5).mono ?_
          rintro e w7 ⟨rfl, hf7⟩
          go_wp2
          go_ret
          exact ⟨rfl, hf05.call hf7⟩
        · have hb1 : (a != D.wd) = true := by simp [e1]
          have hb2 : (a != D.df k) = false := by simp; omega
          clear e1 h3
          go_wp2_with fail
          rw [← HC2.out]
          refine (target27_any D _ false w4).mono ?_
          rintro e w5 ⟨rfl, hf5⟩
          rw [HF.out p HP6.out]
          have hcb : ¬ D.df k < D.df p := by have := HPP.out; omega
          have hf05 := hf04.call hf5
          clear c0 c1 c2 c3 c4 c5 c6 c7 c8 c9 c10 c11 c12
          go_wp2_with fail
          refine (awake27_any w5).mono ?_
          rintro e w7 ⟨rfl, hf7⟩
          go_wp2
          go_ret
          exact ⟨rfl, hf05.call hf7⟩
end Go.Proofs.Ytmkbahmjickoiaa
