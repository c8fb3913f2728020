/- The law DeviceHierarchy, walked. -/
import Derived.Test.YtdocdgghphhdpaaMgSuspFail17
import Derived.Test.YtdocdgghphhdpaaMgSuspFail8
namespace Go.Proofs.Ytdocdgghphhdpaa
open Go.RowKit

def HiR1 (w3 : World) (g n : Nat) (m : Nat) (i : Value) (wr : World) : Prop :=
  ∃ k : Nat, k ≤ n ∧ i = .int .i64 (k : Int) ∧ FA wr g 3 nv n (fun q => if q < k then 4 else 0) ∧ Fr [] w3 wr ∧ m = n - k
def HiR2 (w3 : World) (C : TC) (T : TP) (ds : List DV) (g : Nat) (n : Nat) (m : Nat) (v11 i : Value) (wr : World) : Prop :=
  ∃ (j : Nat) (s : TSt), j ≤ n ∧ v11 = .int .u64 (s.clk : Int) ∧ i = .int .i64 (j : Int) ∧ TrAt wr T ds C s ∧ TInv C s ∧ s.clk ≤ MaxT ∧ FA wr g 3 nv C.nd s.st ∧ Fr T.wr w3 wr ∧ m = n - j
def HiR3 (w6 : World) (n : Nat) (m : Nat) (i : Value) (wr : World) : Prop := ∃ k : Nat, k ≤ n ∧ i = .int .i64 (k : Int) ∧ Fr [] w6 wr ∧ m = n - k
theorem DvsAt.par {w : World} {A : Option Addr} {out : List DV} {C : TC} (h : DvsAt w A out) (hn : out.length = C.nd) (ht : ∀ i x, out[i]? = some x → x.d.par = C.par i ∧ x.rl = C.rl i) {i : Nat} (hi : i < C.nd) : ∃ ob oo, A = some ⟨ob, oo, none⟩ ∧ w.cell? ⟨ob, oo + i * 13, none⟩ = some (.int .i64 (C.par i)) := by
  have hx : out[i]? = some _ := List.getElem?_eq_getElem (by omega)
  obtain ⟨ob, oo, e, hp⟩ := h.el hx
  refine ⟨ob, oo, e, ?_⟩
  rw [← (ht i _ hx).1]
  exact hp.1
theorem tcl_fr {w : World} (c : TCL) : Fr [] w (w.alloc (.cells #[.int .i64 c.dev, .int .i64 c.st, .int .u64 (c.wait : Int), .bool false] 36)) := (Fr.refl _ _).alloc _
theorem tcl_blk {w : World} (c : TCL) : Blk (w.alloc (.cells #[.int .i64 c.dev, .int .i64 c.st, .int .u64 (c.wait : Int), .bool false] 36)) w.heap.size 36 #[.int .i64 c.dev, .int .i64 c.st, .int .u64 (c.wait : Int), .bool false] := Blk.new w _ _
/-- The call with its arguments mapped. -/
def tclr (c : TCL) : TCL := { c with raw := false }
set_option maxHeartbeats 16000000 in
set_option maxRecDepth 100000 in
theorem hierarchy_any (A0 : Option Addr) (cp0 : Nat) (raw : List DV) (A1 : Option Addr) (cp1 : Nat) (rls : List RailD) (A2 : Option Addr) (cp2 : Nat) (l : List TCL) (w : World) (hr0 : Row w A0 (dvcs raw)) (hw0 : ∀ x ∈ raw, DvWf w x) (hm0 : raw.length ≤ maxLen) (hr1 : Row w A1 (rls.flatMap rlc)) (hm1 : rls.length ≤ maxLen) (hr2 : Row w A2 (tclcs l)) (hm2 : l.length ≤ maxLen) (hw2 : ∀ q ∈ l, q.wait ≤ 18446744073709551615) :
    Calls Try.prog 3 #[.slice A0 raw.length cp0, .slice A1 rls.length cp1, .slice A2 l.length cp2] w fun e w' => e = .returned (.bool true) ∧ Fr [] w w' := by
  have HDV : Hid (DvsAt w A0 raw) := hide ⟨hr0, fun x hx => (hw0 x hx).1⟩
  have HW := hide hw0
  have HML := hide hm0
  have HR1 : Hid (Row w A1 (rlcs (fun i => rls.getD i ⟨0, 0, 0⟩) rls.length)) := hide (by rw [rlcs_list rls _ (fun i x h => by simp [List.getD, h])]; exact hr1)
  have HL := hide hr2
  have HLW := hide hw2
  unfold maxLen at hm0 hm1 hm2
  clear hr0 hw0 hr1 hr2 hw2
  go_enter Try.func3, Try.ntmps3
  go_wp2_with fail
  refine (large27_any A0 cp0 raw w HDV.out HML.out).mono ?_
  rintro e w1 ⟨big, rfl, hlg, rfl⟩
  cases big with
  | true =>
    go_wp2_with fail
    refine (awake27_any w).mono ?_
    rintro e w7 ⟨rfl, hf7⟩
    go_wp2
    go_ret
    exact ⟨rfl, hf7⟩
  | false =>
  have HLG : Hid (∀ x ∈ raw, ∀ k, (x.rl k).length ≤ 4096) := hide (fun x hx k => by
    by_cases h : k < 4
    · have := (hlg rfl).2 x hx k h
      omega
    · rw [(HW.out x hx).2.2 k (by omega)]
      simp)
  have hr20 : raw.length ≤ 20 := (hlg rfl).1
  clear hlg
  by_cases h20 : 20 < rls.length
  · have b1 : decide ((20 : Int) < (rls.length : Int)) = true := decide_eq_true (by omega)
    have b1n : decide (20 < rls.length) = true := decide_eq_true h20
    clear h20
    go_wp2_with fail
    refine (awake27_any w).mono ?_
    rintro e w7 ⟨rfl, hf7⟩
    go_wp2
    go_ret
    exact ⟨rfl, hf7⟩
  have b1 : decide ((20 : Int) < (rls.length : Int)) = false := decide_eq_false (by omega)
  have b1n : decide (20 < rls.length) = false := decide_eq_false h20
  by_cases h40 : 40 < l.length
  · have b2 : decide ((40 : Int) < (l.length : Int)) = true := decide_eq_true (by omega)
    have b2n : decide (40 < l.length) = true := decide_eq_true h40
    clear h20 h40
    go_wp2_with fail
    refine (awake27_any w).mono ?_
    rintro e w7 ⟨rfl, hf7⟩
    go_wp2
    go_ret
    exact ⟨rfl, hf7⟩
  have b2 : decide ((40 : Int) < (l.length : Int)) = false := decide_eq_false (by omega)
  have b2n : decide (40 < l.length) = false := decide_eq_false h40
  go_wp2_with fail
  refine (some25_any A1 cp1 rls.length _ w HR1.out (by omega)).mono ?_
  rintro e w1 ⟨v7, m, R, rk, rfl, hown7, hgood, hf1⟩
  obtain ⟨A7, c7, rfl, -, -, -⟩ := own_slice hown7
  have hn8 := hgood.n8
  have HOWN7 := hide hown7
  have HGOOD := hide hgood
  clear hown7 hgood b1 b1n b2 b2n
  go_wp2_with fail
  refine (some27_any A0 cp0 raw m w1 (HDV.out.fr0 hf1) HML.out (fun x hx k => Nat.le_trans (HLG.out x hx k) (by unfold maxLen; omega)) (by omega)).mono ?_
  rintro e w2 ⟨v8, out, rfl, hown8, hrl, hso, hf2⟩
  obtain ⟨A8, c8, rfl, -, -, -⟩ := own_slice hown8
  obtain ⟨C, rfl, hnd, hcall⟩ := brd_new HOWN7.out HGOOD.out hf1 hown8 hrl hso hf2

  rw [hnd] at hcall ⊢
  have HCALL := hide hcall
  clear hcall hown8 hrl hso HOWN7 HGOOD hnd
  go_wp2_with fail
  refine HCALL.out.mono ?_
  rintro e w3 ⟨T, ds', rfl, hb⟩
  have HB := hide hb
  have hnd6 := hb.nd6
  have hf03 := hb.fr
  clear hb HCALL hf1 hf2 HDV HW HML HR1 HLG
  have m1 := make_ints C.nd C.nd (Nat.le_refl _) (by omega)
  have hfg : Fr [] w3 (w3.alloc (.cells (Array.replicate C.nd (.int .i64 0)) 3)) := (Fr.refl _ _).alloc _
  have HFG : Hid (FA (w3.alloc (.cells (Array.replicate C.nd (.int .i64 0)) 3)) w3.heap.size 3 nv C.nd (fun _ => 0)) := hide (FA.new w3 3 nv 0 C.nd)
  have HGT : Hid (w3.heap.size ∉ T.wr) := hide (fun hm => by have := (HB.out.new _ hm).2; omega)
  have HOK := hide HB.out.ok
  go_upto_region 11 with (fail)
  generalize w3.alloc (.cells (Array.replicate C.nd (.int .i64 0)) 3) = w4 at hfg HFG ⊢
  obtain ⟨g, hge⟩ : ∃ g, g = w3.heap.size := ⟨_, rfl⟩
  rw [← hge] at HFG HGT ⊢
  have HGE := hide hge
  clear hge m1
  go_loopg [13] C.nd (fun m i wr => HiR1 w3 g C.nd m i wr)
  case atStart => exact ⟨0, by omega, rfl, HFG.out.congr (fun i _ => rfl), hfg, rfl⟩
  case round =>
    obtain ⟨k, hk, rfl, hfa, hfr, hmm⟩ := hrel
    have HM := hide hmm
    have HFA := hide hfa
    clear hmm hfa HFG hfg
    by_cases hkn : k < C.nd
    · have hki : (k : Int) < (C.nd : Int) := by omega
      have s0 := HFA.out.cell hkn
      have f0 := HFA.out.frozen k
      go_wp2
      go_roundg (C.nd - (k + 1))
      case measure => rw [HM.out]; omega
      case rel => exact ⟨k + 1, by omega, by go_num, (HFA.out.set_ k 4).congr (fun i _ => by
          by_cases e : i = k
          · subst e; simp
          · by_cases h : i < k
            · simp [e, h, show i < k + 1 by omega]
            · simp [e, h, show ¬ i < k + 1 by omega]), hfr.set (.inr (by rw [HGE.out]; exact Nat.le_refl _)) _, rfl⟩
    · have hke : k = C.nd := by omega
      subst hke
      have hki : ¬ (C.nd : Int) < (C.nd : Int) := by omega
      have HFA2 : Hid (FA wr g 3 nv C.nd tsz.st) := hide (HFA.out.congr (fun i hi => by rw [if_pos hi]; rfl))
      have HAT0 := hide (HB.out.at_.fr0 hfr)
      have hfr3 : Fr T.wr w3 wr := hfr.mono (fun _ _ h => by cases h)
      clear hfr HFA
      go_wp2
      go_loopg [11, 14] l.length (fun m v11 i wr => HiR2 w3 C T ds' g l.length m v11 i wr)
      case atStart => exact ⟨0, tsz, by omega, rfl, rfl, HAT0.out, tsz_inv C, Nat.zero_le _, HFA2.out, hfr3, rfl⟩
      case round =>
        obtain ⟨j, s, hj, rfl, rfl, hat, hin, hck, hfa, hfr, hmm⟩ := hrel
        have HMM := hide hmm
        have HATr := hide hat
        have HINr := hide hin
        have HCK := hide hck
        have HFAr := hide hfa
        have hfwr : Fr [] w wr := hf03.step hfr (fun y hy => .inr (HB.out.new y hy).1)
        clear hmm hat hin hck hfa HFA2 HAT0 hfr3
        by_cases hlt : j < l.length
        · by_cases hn0 : 0 < C.nd
          · have hn1 := hn0
            obtain ⟨c, hc⟩ : ∃ c, l[j]? = some c := ⟨_, List.getElem?_eq_getElem hlt⟩
            obtain ⟨ob, oo, rfl, c0, c1, c2, c3⟩ := (HL.out.fr0 hfwr).tcl hc
            have hkl : (j : Int) < (l.length : Int) := by omega
            have hni : (0 : Int) < (C.nd : Int) := by omega
            have b1 : decide ((j : Int) < (l.length : Int)) = true := decide_eq_true hkl
            have b2 : decide ((0 : Int) < (C.nd : Int)) = true := decide_eq_true hni
            have hb5 := tcl_blk (w := wr) c
            have hf5 := tcl_fr (w := wr) c
            clear hc
            go_upto_region 19 with (fail)
            generalize wr.alloc (.cells #[.int .i64 c.dev, .int .i64 c.st, .int .u64 (c.wait : Int), .bool false] 36) = w5 at hb5 hf5 ⊢
            have hszr : w3.heap.size ≤ wr.heap.size := hfr.size
            generalize wr.heap.size = gc at hb5 hszr ⊢
            have d0 : w5.cell? ⟨gc, 0, none⟩ = some (.int .i64 c.dev) := hb5.cell 0
            have d1 : w5.cell? ⟨gc, 1, none⟩ = some (.int .i64 c.st) := hb5.cell 1
            have d2 : w5.cell? ⟨gc, 2, none⟩ = some (.int .u64 (c.wait : Int)) := hb5.cell 2
            have d3 : w5.cell? ⟨gc, 3, none⟩ = some (.bool false) := hb5.cell 3
            have HAT5 := hide (HATr.out.fr0 hf5)
            have HFA5 := hide (HFAr.out.fr0 hf5)
            have hf35 : Fr T.wr w3 w5 := hfr.call hf5
            have hclk : s.clk ≤ 1152921504606846976 := HCK.out
            obtain ⟨d, k, hdn, hk4, hat⟩ := tatM_bounds (c := tclr c) (n := C.nd) (now := s.clk) rfl hn0
            have HTA := hide hat
            clear hb5 hf5 hat c0 c1 c2 c3 b1 b2
            go_wp2_with fail
            refine (at27_any (tclr c) C.nd s.clk w5 (by omega) hclk).mono ?_
            rintro e w5b ⟨rfl, hf5b⟩
            rw [HTA.out]
            dsimp only
            generalize s.clk + (tclr c).wait % 20 = t
            have HAT6 := hide (HAT5.out.fr0 hf5b)
            have HFA6 := hide (HFA5.out.fr0 hf5b)
            have hf36 : Fr T.wr w3 w5b := hf35.call hf5b
            clear d0 d1 d2 d3 HAT5 hf35 hf5b HFA5
            go_wp2_with fail
            refine (tset_any HAT6.out HOK.out HINr.out (d : Int) (k : Int) t).mono ?_
            rintro e w6 ⟨v6, rfl, hat6, hown6, hf6⟩
            obtain ⟨A6, c6, rfl, -, -, -⟩ := own_slice hown6
            have hcs := setM_cases C t d k s
            have hiv := setM_inv HOK.out HINr.out (now := t) (d : Int) (k : Int)
            have hck := setM_clk C t (d : Int) (k : Int) s HCK.out
            generalize setM C t (d : Int) (k : Int) s = r at hat6 hcs hiv hck ⊢
            have HAT7 := hide hat6
            have HIV := hide hiv
            have HCK7 := hide hck
            have HCS := hide hcs
            have hf37 : Fr T.wr w3 w6 := hf36.trans hf6
            have HFA7 := hide (HFA6.out.fr hf6 HGT.out)
            clear hat6 hown6 hcs hiv hck hf36 HAT6 HFA6
            have HGT7 := HGT
            obtain ⟨s', hs'⟩ : ∃ s', s' = r.1 := ⟨_, rfl⟩
            rw [← hs'] at HAT7 HIV HCK7
            have HS' := hide hs'
            clear hs'
            go_upto_if 99 with (fail)
            go_cut [11] (fun v11 wx => v11 = .int .u64 (s'.clk : Int) ∧ TrAt wx T ds' C s' ∧ FA wx g 3 nv C.nd s'.st ∧ Fr T.wr w3 wx)
            case first =>
              rcases HCS.out with ⟨h1, h2⟩ | ⟨h1, h2, h3⟩
              · have b1 : (r.2.2 == 0) = false := beq_eq_false_iff_ne.2 h1
                have HE := hide (HS'.out.trans h2)
                clear h1 h2
                go_wp2
                go_meet
                exact ⟨by rw [HE.out], HAT7.out, by rw [HE.out]; exact HFA7.out, hf37⟩
              · have b1 : (r.2.2 == 0) = true := by rw [h1]; rfl
                rw [← HS'.out] at h2 h3
                have HE2 := hide h2
                have HE3 := hide h3
                have s0 := HFA7.out.cell hdn
                have f0 := HFA7.out.frozen d
                clear h1 h2 h3
                have hdi : (d : Int) < (C.nd : Int) := by omega
                go_wp2
                go_meet
                refine ⟨by rw [HE3.out], ?_, ?_, ?_⟩
                · exact HAT7.out.frGe (S := [g]) HB.out.at_.low ((Fr.refl _ _).set (.inl (by simp)) _) (fun y hy => by rw [List.mem_singleton.1 hy, HGE.out]; exact Nat.le_refl _)
                · rw [HE2.out]
                  exact HFA7.out.set_ d k
                · exact hf37.set (.inr (by rw [HGE.out]; exact Nat.le_refl _)) _
            case rest =>
              obtain ⟨rfl, hatx, hfax, hfx⟩ := hcut
              have HATx := hide hatx
              have HFAx := hide hfax
              clear hatx hfax HAT7 HFA7 hf37 HCS
              go_wp2
              go_loopg [21] C.nd (fun m i wr => HiR3 wc C.nd m i wr)
              case atStart => exact ⟨0, by omega, rfl, Fr.refl _ _, rfl⟩
              case round =>
                obtain ⟨q, hq, rfl, hfr3, hmm⟩ := hrel
                have HM3 := hide hmm
                have HATq := hide (HATx.out.fr0 hfr3)
                have HFAq := hide (HFAx.out.fr0 hfr3)
                have hfq := hfx.call hfr3
                clear hmm
                by_cases hqn : q < C.nd
                · have hqi : (q : Int) < (C.nd : Int) := by omega
                  obtain ⟨ob2, oo2, rfl, p0⟩ := (HB.out.dv _ hfq).1.par HB.out.nd HB.out.tie hqn
                  have e0 := HFAq.out.cell hqn
                  have hst : stI C s' (q : Int) = (s'.st q : Int) := by rw [stI, if_pos ⟨by omega, hqi⟩, Int.toNat_natCast]
                  have HST : Hid (∀ n, Calls Try.prog 21 #[.pointer (some ⟨T.b, 0, none⟩), .int .i64 (q : Int)] (wr.drewN n) fun e w' => e = .returned (.int .i64 (s'.st q : Int)) ∧ wr.drewN n = w') := hide (fun n => by
                    rw [← hst]
                    exact tstate_any (HATq.out.fr0 ((Fr.refl [] _).drewN _)) (q : Int))
                  have hpb := HOK.out.par q hqn
                  have hhi := HIV.out.hier q
                  have HPB : Hid (0 ≤ C.par q → ∃ p : Nat, C.par q = (p : Int) ∧ p < C.nd ∧ s'.st p ≤ s'.st q) := hide (fun h => by
                    obtain ⟨p, hp⟩ := Int.eq_ofNat_of_zero_le h
                    exact ⟨p, hp, by omega, hhi p hqn hp⟩)
                  have HDONE : Hid (∀ n, HiR3 wc C.nd (C.nd - (q + 1)) (.int .i64 ((q + 1 : Nat) : Int)) (wr.drewN n)) := hide (fun n => ⟨q + 1, by omega, rfl, hfr3.drewN n, rfl⟩)
                  clear hst hpb hhi
                  by_cases hp0 : 0 ≤ C.par q
                  · obtain ⟨p, hp, hpn, hle⟩ := HPB.out hp0
                    have e1 := HFAq.out.cell hpn
                    rw [hp] at p0
                    have hpi : (p : Int) < (C.nd : Int) := by omega
                    have g0 : decide ((0 : Int) ≤ (p : Int)) = true := decide_eq_true (by omega)
                    have g1 : decide ((s'.st q : Int) < (s'.st p : Int)) = false := decide_eq_false (by omega)
                    have g1n : decide (s'.st q < s'.st p) = false := decide_eq_false (by omega)
                    clear hp0 hp HPB hle
                    generalize s'.st q = xq at e0 HST g1 g1n
                    generalize s'.st p = xp at e1 g1 g1n
                    go_wp2
                    go_quiet ((go_at_call 21; exact quiet_id27 (HST.out _)))
                    go_wp2
                    go_roundg (C.nd - (q + 1))
                    case measure => rw [HM3.out]; omega
                    case rel => exact HDONE.out _
                  · have g0 : decide ((0 : Int) ≤ C.par q) = false := decide_eq_false hp0
                    clear hp0 HPB
                    generalize C.par q = pq at p0 g0
                    generalize s'.st q = xq at e0 HST
                    go_wp2
                    go_quiet ((go_at_call 21; exact quiet_id27 (HST.out _)))
                    go_wp2
                    go_roundg (C.nd - (q + 1))
                    case measure => rw [HM3.out]; omega
                    case rel => exact HDONE.out _
                · have hqi : ¬ (q : Int) < (C.nd : Int) := by omega
                  go_wp2
                  go_roundg (l.length - (j + 1))
                  case measure => rw [HMM.out]; omega
                  case rel => exact ⟨j + 1, s', by omega, rfl, by go_num, HATq.out, HIV.out, HCK7.out, HFAq.out, hfq, rfl⟩
          · have b1 : decide ((j : Int) < (l.length : Int)) = true := decide_eq_true (by omega)
            have b2 : decide ((0 : Int) < (C.nd : Int)) = false := decide_eq_false (by omega)
            go_wp2_with fail
            refine (awake27_any wr).mono ?_
            rintro e w7 ⟨rfl, hf7⟩
            go_wp2
            go_ret
            exact ⟨rfl, hfwr.call hf7⟩
        · have b1 : decide ((j : Int) < (l.length : Int)) = false := decide_eq_false (by omega)
          go_wp2_with fail
          refine (awake27_any wr).mono ?_
          rintro e w7 ⟨rfl, hf7⟩
          go_wp2
          go_ret
          exact ⟨rfl, hfwr.call hf7⟩
end Go.Proofs.Ytdocdgghphhdpaa

