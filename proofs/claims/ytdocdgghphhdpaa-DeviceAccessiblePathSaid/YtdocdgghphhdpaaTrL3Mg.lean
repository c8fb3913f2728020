/- The law DeviceAccessiblePath, walked. -/
import Derived.Test.YtdocdgghphhdpaaTrL2Mg
import Derived.Test.YtdocdgghphhdpaaTrW5Mg
namespace Go.Proofs.Ytdocdgghphhdpaa
open Go.RowKit

set_option maxHeartbeats 16000000 in
set_option maxRecDepth 100000 in
theorem accPath_any (A0 : Option Addr) (cp0 : Nat) (raw : List DV) (A1 : Option Addr) (cp1 : Nat) (rls : List RailD) (A2 : Option Addr) (cp2 : Nat) (l : List TCL) (ta0 tl0 : Int) (w : World) (hr0 : Row w A0 (dvcs raw)) (hw0 : ∀ x ∈ raw, DvWf w x) (hm0 : raw.length ≤ maxLen) (hr1 : Row w A1 (rls.flatMap rlc)) (hm1 : rls.length ≤ maxLen) (hr2 : Row w A2 (tclcs l)) (hm2 : l.length ≤ maxLen) (hw2 : ∀ q ∈ l, q.wait ≤ 18446744073709551615) (hta : (Lit.int .u64 ta0).wf = true) (htl : (Lit.int .u64 tl0).wf = true) :
    Calls Try.prog 5 #[.slice A0 raw.length cp0, .slice A1 rls.length cp1, .slice A2 l.length cp2, .int .u64 ta0, .int .u64 tl0] w fun e w' => e = .returned (.bool true) ∧ Fr [] w w' := by
  obtain ⟨ta, rfl, -⟩ := nat_of hta
  obtain ⟨tl, rfl, -⟩ := nat_of htl
  clear hta htl
  have HDV : Hid (DvsAt w A0 raw) := hide ⟨hr0, fun x hx => (hw0 x hx).1⟩
  have HW := hide hw0
  have HML := hide hm0
  have HR1 : Hid (Row w A1 (rlcs (fun i => rls.getD i ⟨0, 0, 0⟩) rls.length)) := hide (by rw [rlcs_list rls _ (fun i x h => by simp [List.getD, h])]; exact hr1)
  have HL := hide hr2
  have HLW := hide hw2
  unfold maxLen at hm0 hm1 hm2
  clear hr0 hw0 hr1 hr2 hw2
  go_enter Try.func5, Try.ntmps5
  go_wp2_with fail
  refine (large27_any A0 cp0 raw w HDV.out HML.out).mono ?_
  rintro e w1 ⟨big, rfl, hlg, rfl⟩
  cases big with
  | true =>
    go_wp2_with fail
    refine (awake27_any w).mono ?_
    rintro e w7 ⟨rfl, hf7⟩
    go_wp2
    go_ret
    exact ⟨rfl, hf7⟩
  | false =>
  have HLG : Hid (∀ x ∈ raw, ∀ k, (x.rl k).length ≤ 4096) := hide (fun x hx k => by
    by_cases h : k < 4
    · have := (hlg rfl).2 x hx k h
      omega
    · rw [(HW.out x hx).2.2 k (by omega)]
      simp)
  have hr20 : raw.length ≤ 20 := (hlg rfl).1
  clear hlg
  by_cases h20 : 20 < rls.length
  · have b1 : decide ((20 : Int) < (rls.length : Int)) = true := decide_eq_true (by omega)
    have b1n : decide (20 < rls.length) = true := decide_eq_true h20
    clear h20
    go_wp2_with fail
    refine (awake27_any w).mono ?_
    rintro e w7 ⟨rfl, hf7⟩
    go_wp2
    go_ret
    exact ⟨rfl, hf7⟩
  have b1 : decide ((20 : Int) < (rls.length : Int)) = false := decide_eq_false (by omega)
  have b1n : decide (20 < rls.length) = false := decide_eq_false h20
  by_cases h40 : 30 < l.length
  · have b2 : decide ((30 : Int) < (l.length : Int)) = true := decide_eq_true (by omega)
    have b2n : decide (30 < l.length) = true := decide_eq_true h40
    clear h20 h40
    go_wp2_with fail
    refine (awake27_any w).mono ?_
    rintro e w7 ⟨rfl, hf7⟩
    go_wp2
    go_ret
    exact ⟨rfl, hf7⟩
  have b2 : decide ((30 : Int) < (l.length : Int)) = false := decide_eq_false (by omega)
  have b2n : decide (30 < l.length) = false := decide_eq_false h40
  go_wp2_with fail
  refine (some25_any A1 cp1 rls.length _ w HR1.out (by omega)).mono ?_
  rintro e w1 ⟨v7, m, R, rk, rfl, hown7, hgood, hf1⟩
  obtain ⟨A7, c7, rfl, -, -, -⟩ := own_slice hown7
  have hn8 := hgood.n8
  have HOWN7 := hide hown7
  have HGOOD := hide hgood
  clear hown7 hgood b1 b1n b2 b2n
  go_wp2_with fail
  refine (some27_any A0 cp0 raw m w1 (HDV.out.fr0 hf1) HML.out (fun x hx k => Nat.le_trans (HLG.out x hx k) (by unfold maxLen; omega)) (by omega)).mono ?_
  rintro e w2 ⟨v8, out, rfl, hown8, hrl, hso, hf2⟩
  obtain ⟨A8, c8, rfl, -, -, -⟩ := own_slice hown8
  obtain ⟨C, rfl, hnd, hcall⟩ := brd_new HOWN7.out HGOOD.out hf1 hown8 hrl hso hf2

  rw [hnd] at hcall ⊢
  have HCALL := hide hcall
  clear hcall hown8 hrl hso HOWN7 HGOOD hnd
  go_wp2_with fail
  refine HCALL.out.mono ?_
  rintro e w3 ⟨T, ds', rfl, hb⟩
  have HB := hide hb
  have hnd6 := hb.nd6
  have hf03 := hb.fr
  clear hb HCALL hf1 hf2 HDV HW HML HR1 HLG
  have HOK := hide HB.out.ok
  go_upto_region 10 with (fail)
  go_loopg [15, 16] l.length (fun m v11 i wr => RmR2 w3 C T ds' l.length m v11 i wr)
  case atStart => exact ⟨0, tsz, by omega, rfl, rfl, HB.out.at_, tsz_inv C, Nat.zero_le _, Fr.refl _ _, rfl⟩
  case round =>
    obtain ⟨j, s, hj, rfl, rfl, hat, hin, hck, hfr, hmm⟩ := hrel
    have HMM := hide hmm
    have HATr := hide hat
    have HINr := hide hin
    have HCK := hide hck
    have hfwr : Fr [] w wr := hf03.step hfr (fun y hy => .inr (HB.out.new y hy).1)
    clear hmm hat hin hck
    by_cases hgo : j < l.length ∧ 0 < C.nd
    · obtain ⟨hlt, hn0⟩ := hgo
      obtain ⟨c, hc⟩ : ∃ c, l[j]? = some c := ⟨_, List.getElem?_eq_getElem hlt⟩
      obtain ⟨ob, oo, rfl, c0, c1, c2, c3⟩ := (HL.out.fr0 hfwr).tcl hc
      have hkl : (j : Int) < (l.length : Int) := by omega
      have hni : (0 : Int) < (C.nd : Int) := by omega
      have b1 : decide ((j : Int) < (l.length : Int)) = true := decide_eq_true hkl
      have b2 : decide ((0 : Int) < (C.nd : Int)) = true := decide_eq_true hni
      have hb5 := tcl_blk (w := wr) c
      have hf5 := tcl_fr (w := wr) c
      clear hc
      go_upto_region 14 with (fail)
      generalize wr.alloc (.cells #[.int .i64 c.dev, .int .i64 c.st, .int .u64 (c.wait : Int), .bool false] 36) = w5 at hb5 hf5 ⊢
      have hszr : w3.heap.size ≤ wr.heap.size := hfr.size
      generalize wr.heap.size = gc at hb5 hszr ⊢
      have d0 : w5.cell? ⟨gc, 0, none⟩ = some (.int .i64 c.dev) := hb5.cell 0
      have d1 : w5.cell? ⟨gc, 1, none⟩ = some (.int .i64 c.st) := hb5.cell 1
      have d2 : w5.cell? ⟨gc, 2, none⟩ = some (.int .u64 (c.wait : Int)) := hb5.cell 2
      have d3 : w5.cell? ⟨gc, 3, none⟩ = some (.bool false) := hb5.cell 3
      have HAT5 := hide (HATr.out.fr0 hf5)
      have hf35 : Fr T.wr w3 w5 := hfr.call hf5
      have hclk : s.clk ≤ 1152921504606846976 := HCK.out
      obtain ⟨d, k, hdn, hk4, hat⟩ := tatM_bounds (c := tclr c) (n := C.nd) (now := s.clk) rfl hn0
      have HTA := hide hat
      clear hb5 hf5 hat c0 c1 c2 c3 b1 b2
      go_wp2_with fail
      refine (at27_any (tclr c) C.nd s.clk w5 (by omega) hclk).mono ?_
      rintro e w5b ⟨rfl, hf5b⟩
      rw [HTA.out]
      dsimp only
      generalize s.clk + (tclr c).wait % 20 = t
      have HAT6 := hide (HAT5.out.fr0 hf5b)
      have hf36 : Fr T.wr w3 w5b := hf35.call hf5b
      clear d0 d1 d2 d3 HAT5 hf35 hf5b
      have h3 : (j : Int).tmod 3 = ((j % 3 : Nat) : Int) := rfl
      have h3b : (j : Int) % 3 = ((j % 3 : Nat) : Int) := rfl
      generalize j % 3 = j3 at h3 h3b
      go_upto_if 83 with (fail)
      go_cut [19] (fun v19 wx => (∃ k' : Nat, k' ≤ 4 ∧ v19 = .int .i64 (k' : Int)) ∧ w5b = wx)
      case first =>
        by_cases hj3 : j3 = 2
        · subst hj3
          go_wp2
          go_meet
          exact ⟨⟨k, hk4, rfl⟩, rfl⟩
        · have b1 : ((j3 : Int) != 2) = true := by simp; omega
          go_wp2
          go_meet
          exact ⟨⟨0, by omega, rfl⟩, rfl⟩
      case rest =>
        obtain ⟨⟨k2, hk2, rfl⟩, rfl⟩ := hcut
        clear h3 h3b HTA
        go_wp2_with fail
        refine (tset_any HAT6.out HOK.out HINr.out (d : Int) (k2 : Int) t).mono ?_
        rintro e w6 ⟨v6, rfl, hat6, hown6, hf6⟩
        obtain ⟨A6, c6, rfl, -, -, -⟩ := own_slice hown6
        have hcs := setM_cases C t d k2 s
        have hiv := setM_inv HOK.out HINr.out (now := t) (d : Int) (k2 : Int)
        have hck := setM_clk C t (d : Int) (k2 : Int) s HCK.out
        generalize setM C t (d : Int) (k2 : Int) s = r at hat6 hcs hiv hck ⊢
        have HAT7 := hide hat6
        have HIV := hide hiv
        have HCK7 := hide hck
        have HCS := hide hcs
        have hf37 : Fr T.wr w3 w6 := hf36.trans hf6
        clear hat6 hown6 hcs hiv hck hf36 HAT6
        obtain ⟨s', hs'⟩ : ∃ s', s' = r.1 := ⟨_, rfl⟩
        rw [← hs'] at HAT7 HIV HCK7
        have HS' := hide hs'
        clear hs'
        rcases HCS.out with ⟨h1, h2⟩ | ⟨h1, h2, h3⟩
        · have b1 : (r.2.2 == 0) = false := beq_eq_false_iff_ne.2 h1
          have HE := hide (HS'.out.trans h2)
          clear h1 h2 HCS HS'
          go_wp2
          go_roundg (l.length - (j + 1))
          case measure => rw [HMM.out]; omega
          case rel => exact ⟨j + 1, s', by omega, by rw [HE.out], by go_num, HAT7.out, HIV.out, HCK7.out, hf37, rfl⟩
        · have b1 : (r.2.2 == 0) = true := by rw [h1]; rfl
          rw [← HS'.out] at h3
          have HE3 := hide h3
          clear h1 h2 h3 HCS HS'
          go_wp2
          go_roundg (l.length - (j + 1))
          case measure => rw [HMM.out]; omega
          case rel => exact ⟨j + 1, s', by omega, by rw [HE3.out], by go_num, HAT7.out, HIV.out, HCK7.out, hf37, rfl⟩
    · have hg : (decide ((j : Int) < (l.length : Int)) = false ∧ ¬ j < l.length) ∨ (decide ((j : Int) < (l.length : Int)) = true ∧ decide ((0 : Int) < (C.nd : Int)) = false ∧ j < l.length ∧ ¬ 0 < C.nd) := by
        simp only [decide_eq_true_eq, decide_eq_false_iff_not]
        omega
      have hclk : s.clk ≤ 1152921504606846976 := HCK.out
      have hx1 : (ta : Int).tmod 100 = ((ta % 100 : Nat) : Int) := rfl
      have hx2 : (ta : Int) % 100 = ((ta % 100 : Nat) : Int) := rfl
      have hx3 : (tl : Int).tmod 1000 = ((tl % 1000 : Nat) : Int) := rfl
      have hx4 : (tl : Int) % 1000 = ((tl % 1000 : Nat) : Int) := rfl
      have hx5 : ta % 100 < 100 := by omega
      have hx6 : tl % 1000 < 1000 := by omega
      generalize ta % 100 = xa at hx1 hx2 hx5
      generalize tl % 1000 = xl at hx3 hx4 hx6
      have hwr1 : IntKind.u64.wrap ((s.clk : Int) + (xa : Int)) = ((s.clk + xa : Nat) : Int) := by rw [IntKind.wrap_u64]; omega
      have hwr2 : IntKind.u64.wrap (((s.clk + xa : Nat) : Int) + (xl : Int)) = ((s.clk + xa + xl : Nat) : Int) := by rw [IntKind.wrap_u64]; omega
      generalize s.clk + xa = t at hwr1 hwr2
      obtain ⟨t2, ht2⟩ : ∃ t2, t2 = t + xl := ⟨_, rfl⟩
      rw [← ht2] at hwr2
      have HT2 : Hid (t ≤ t2) := hide (by omega)
      clear hgo ht2 hx5 hx6
      rcases hg with ⟨b1, b1n⟩ | ⟨b1, b2, b1n, b2n⟩
      all_goals
        go_wp2
        first
          | clear b1 b2 b1n b2n
          | clear b1 b1n
        go_loopg [24] C.nd (fun m i wz => HiR3 wr C.nd m i wz)
        case atStart => exact ⟨0, by omega, rfl, Fr.refl _ _, rfl⟩
        case round =>
          obtain ⟨k, hk, rfl, hfk, hmm⟩ := hrel
          have HM3 := hide hmm
          have HATk := hide (HATr.out.fr0 hfk)
          have hfrk := hfr.call hfk
          have hfwk := hfwr.call hfk
          clear hmm
          by_cases hkn : k < C.nd
          · have hki : (k : Int) < (C.nd : Int) := by omega
            go_wp2_with fail
            refine (tacc_any HATk.out HOK.out (k : Int) t).mono ?_
            rintro e w9 ⟨rfl, rfl⟩
            generalize hac : accM C T.pr s (k : Int) t = ac
            cases ac with
            | false =>
              clear hac
              go_wp2
              go_roundg (C.nd - (k + 1))
              case measure => rw [HM3.out]; omega
              case rel => exact ⟨k + 1, by omega, by go_num, hfk, rfl⟩
            | true =>
              have h1 := acc_one (P := T.pr) (s := s) (now := t) HOK.out hkn
              rw [hac] at h1
              have h1' := h1.symm
              rw [Bool.and_eq_true] at h1'
              have hs0 : s.st k = 0 := by
                have := h1'.1
                unfold accR at this
                rw [Bool.and_eq_true] at this
                exact of_decide_eq_true this.1
              have hst : stI C s (k : Int) = 0 := by rw [stI, if_pos ⟨by omega, hki⟩, Int.toNat_natCast, hs0]; rfl
              have HST := hide hst
              have HPA : Hid (0 ≤ C.par k → accM C T.pr s (C.par k) t = true) := hide (fun h => by
                have := h1'.2
                rw [if_neg (by omega)] at this
                exact this)
              have HAC2 := hide (acc_mono HT2.out hac)
              obtain ⟨ob2, oo2, rfl, p0⟩ := (HB.out.dv _ hfrk).1.par HB.out.nd HB.out.tie hkn
              clear hac h1 h1' hs0 hst
              generalize C.par k = pk at p0 HPA
              by_cases hp0 : 0 ≤ pk
              · have g0 : decide ((0 : Int) ≤ pk) = true := decide_eq_true hp0
                have HPA2 := hide (HPA.out hp0)
                clear hp0 HPA
                go_wp2_with fail
                refine (tstate_any HATk.out (k : Int)).mono ?_
                rintro e w9 ⟨rfl, rfl⟩
                rw [HST.out]
                go_wp2_with fail
                refine (tacc_any HATk.out HOK.out pk t).mono ?_
                rintro e w9 ⟨rfl, rfl⟩
                rw [HPA2.out]
                go_wp2_with fail
                refine (tacc_any HATk.out HOK.out (k : Int) t2).mono ?_
                rintro e w9 ⟨rfl, rfl⟩
                rw [HAC2.out]
                go_wp2
                go_roundg (C.nd - (k + 1))
                case measure => rw [HM3.out]; omega
                case rel => exact ⟨k + 1, by omega, by go_num, hfk, rfl⟩
              · have g0 : decide ((0 : Int) ≤ pk) = false := decide_eq_false hp0
                clear hp0 HPA
                go_wp2_with fail
                refine (tstate_any HATk.out (k : Int)).mono ?_
                rintro e w9 ⟨rfl, rfl⟩
                rw [HST.out]
                go_wp2_with fail
                refine (tacc_any HATk.out HOK.out (k : Int) t2).mono ?_
                rintro e w9 ⟨rfl, rfl⟩
                rw [HAC2.out]
                go_wp2
                go_roundg (C.nd - (k + 1))
                case measure => rw [HM3.out]; omega
                case rel => exact ⟨k + 1, by omega, by go_num, hfk, rfl⟩
          · have hki : ¬ (k : Int) < (C.nd : Int) := by omega
            go_wp2_with fail
            refine (awake27_any wr).mono ?_
            rintro e w7 ⟨rfl, hf7⟩
            go_wp2
            go_ret
            exact ⟨rfl, hfwk.call hf7⟩
end Go.Proofs.Ytdocdgghphhdpaa

