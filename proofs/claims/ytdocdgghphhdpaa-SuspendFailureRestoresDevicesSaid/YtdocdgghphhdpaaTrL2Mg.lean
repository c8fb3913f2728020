/- The law DeviceRailsMatchStates, walked. -/
import Derived.Test.YtdocdgghphhdpaaTrL1Mg
namespace Go.Proofs.Ytdocdgghphhdpaa
open Go.RowKit

def RmR2 (w3 : World) (C : TC) (T : TP) (ds : List DV) (n : Nat) (m : Nat) (v11 i : Value) (wr : World) : Prop :=
  ∃ (j : Nat) (s : TSt), j ≤ n ∧ v11 = .int .u64 (s.clk : Int) ∧ i = .int .i64 (j : Int) ∧ TrAt wr T ds C s ∧ TInv C s ∧ s.clk ≤ MaxT ∧ Fr T.wr w3 wr ∧ m = n - j
def RmB (w6 : World) (C : TC) (s : TSt) (j : Nat) (m : Nat) (v20 i : Value) (wr : World) : Prop := ∃ k : Nat, k ≤ C.nd ∧ v20 = .int .i64 (useN C s.st j k : Int) ∧ i = .int .i64 (k : Int) ∧ Fr [] w6 wr ∧ m = C.nd - k
def cntTo (L : List Int) (j q : Nat) : Nat := if (j : Int) ∈ L.take q then 1 else 0
def RmD (w6 : World) (L : List Int) (j z0 : Nat) (m : Nat) (v20 i : Value) (wr : World) : Prop := ∃ q : Nat, q ≤ L.length ∧ v20 = .int .i64 ((z0 + cntTo L j q : Nat) : Int) ∧ i = .int .i64 (q : Int) ∧ Fr [] w6 wr ∧ m = L.length - q
def RmE (w6 : World) (C : TC) (s : TSt) (j : Nat) (m : Nat) (v20 i : Value) (wr : World) : Prop := ∃ k : Nat, k ≤ C.n ∧ v20 = .int .i64 ((useF C s.st j + heldN C.R s.r j k : Nat) : Int) ∧ i = .int .i64 (k : Int) ∧ Fr [] w6 wr ∧ m = C.n - k
theorem cntTo_yes {L : List Int} {j q : Nat} {v : Int} (hn : L.Nodup) (hv : L[q]? = some v) (e : v = (j : Int)) : cntTo L j (q + 1) = cntTo L j q + 1 := by
  subst e
  have h1 := hn.sublist (List.take_sublist (q + 1) L)
  rw [take_succ_some hv] at h1
  have h2 : (j : Int) ∉ L.take q := fun hm => (List.nodup_append.1 h1).2.2 _ hm _ (by simp) rfl
  rw [cntTo, cntTo, take_succ_some hv, if_pos (by simp), if_neg h2]
theorem cntTo_no {L : List Int} {j q : Nat} {v : Int} (hv : L[q]? = some v) (e : ¬ v = (j : Int)) : cntTo L j (q + 1) = cntTo L j q := by
  have h : ((j : Int) ∈ L.take (q + 1)) ↔ (j : Int) ∈ L.take q := by
    rw [take_succ_some hv, List.mem_append, List.mem_singleton]
    exact ⟨fun h => h.elim id (fun h => absurd h.symm e), .inl⟩
  rw [cntTo, cntTo]
  simp only [h]
theorem cntTo_all {L : List Int} {j : Nat} : cntTo L j L.length = if (j : Int) ∈ L then 1 else 0 := by rw [cntTo, List.take_length]
theorem cntTo_le (L : List Int) (j q : Nat) : cntTo L j q ≤ 1 := by unfold cntTo; split <;> omega
theorem Row.rail {w : World} {A : Option Addr} {R : Nat → RailD} {n : Nat} (h : Row w A (rlcs R n)) {k : Nat} (hk : k < n) : ∃ ob oo, A = some ⟨ob, oo, none⟩ ∧ w.cell? ⟨ob, oo + k * 3, none⟩ = some (.int .i64 (R k).sup) ∧ w.cell? ⟨ob, oo + k * 3 + 1, none⟩ = some (.int .u64 ((R k).up : Int)) ∧ w.cell? ⟨ob, oo + k * 3 + 2, none⟩ = some (.int .u64 ((R k).dn : Int)) := by
  obtain ⟨ob, oo, e, hc⟩ := Row.el (f := fun i => rlc (R i)) (l := List.range n) (i := k) (a := k) (fun i => rlc_len (R i)) (by omega) h (by simp [hk])
  exact ⟨ob, oo, e, hc 0 _ rfl, hc 1 _ rfl, hc 2 _ rfl⟩
set_option maxHeartbeats 16000000 in
set_option maxRecDepth 100000 in
theorem railsMatch_any (A0 : Option Addr) (cp0 : Nat) (raw : List DV) (A1 : Option Addr) (cp1 : Nat) (rls : List RailD) (A2 : Option Addr) (cp2 : Nat) (l : List TCL) (w : World) (hr0 : Row w A0 (dvcs raw)) (hw0 : ∀ x ∈ raw, DvWf w x) (hm0 : raw.length ≤ maxLen) (hr1 : Row w A1 (rls.flatMap rlc)) (hm1 : rls.length ≤ maxLen) (hr2 : Row w A2 (tclcs l)) (hm2 : l.length ≤ maxLen) (hw2 : ∀ q ∈ l, q.wait ≤ 18446744073709551615) :
    Calls Try.prog 4 #[.slice A0 raw.length cp0, .slice A1 rls.length cp1, .slice A2 l.length cp2] w fun e w' => e = .returned (.bool true) ∧ Fr [] w w' := by
  have HDV : Hid (DvsAt w A0 raw) := hide ⟨hr0, fun x hx => (hw0 x hx).1⟩
  have HW := hide hw0
  have HML := hide hm0
  have HR1 : Hid (Row w A1 (rlcs (fun i => rls.getD i ⟨0, 0, 0⟩) rls.length)) := hide (by rw [rlcs_list rls _ (fun i x h => by simp [List.getD, h])]; exact hr1)
  have HL := hide hr2
  have HLW := hide hw2
  unfold maxLen at hm0 hm1 hm2
  clear hr0 hw0 hr1 hr2 hw2
  go_enter Try.func4, Try.ntmps4
  go_wp2_with fail
  refine (large27_any A0 cp0 raw w HDV.out HML.out).mono ?_
  rintro e w1 ⟨big, rfl, hlg, rfl⟩
  cases big with
  | true =>
    go_wp2_with fail
    refine (awake27_any w).mono ?_
    rintro e w7 ⟨rfl, hf7⟩
    go_wp2
    go_ret
    exact ⟨rfl, hf7⟩
  | false =>
  have HLG : Hid (∀ x ∈ raw, ∀ k, (x.rl k).length ≤ 4096) := hide (fun x hx k => by
    by_cases h : k < 4
    · have := (hlg rfl).2 x hx k h
      omega
    · rw [(HW.out x hx).2.2 k (by omega)]
      simp)
  have hr20 : raw.length ≤ 20 := (hlg rfl).1
  clear hlg
  by_cases h20 : 20 < rls.length
  · have b1 : decide ((20 : Int) < (rls.length : Int)) = true := decide_eq_true (by omega)
    have b1n : decide (20 < rls.length) = true := decide_eq_true h20
    clear h20
    go_wp2_with fail
    refine (awake27_any w).mono ?_
    rintro e w7 ⟨rfl, hf7⟩
    go_wp2
    go_ret
    exact ⟨rfl, hf7⟩
  have b1 : decide ((20 : Int) < (rls.length : Int)) = false := decide_eq_false (by omega)
  have b1n : decide (20 < rls.length) = false := decide_eq_false h20
  by_cases h40 : 40 < l.length
  · have b2 : decide ((40 : Int) < (l.length : Int)) = true := decide_eq_true (by omega)
    have b2n : decide (40 < l.length) = true := decide_eq_true h40
    clear h20 h40
    go_wp2_with fail
    refine (awake27_any w).mono ?_
    rintro e w7 ⟨rfl, hf7⟩
    go_wp2
    go_ret
    exact ⟨rfl, hf7⟩
  have b2 : decide ((40 : Int) < (l.length : Int)) = false := decide_eq_false (by omega)
  have b2n : decide (40 < l.length) = false := decide_eq_false h40
  go_wp2_with fail
  refine (some25_any A1 cp1 rls.length _ w HR1.out (by omega)).mono ?_
  rintro e w1 ⟨v7, m, R, rk, rfl, hown7, hgood, hf1⟩
  obtain ⟨A7, c7, rfl, -, -, -⟩ := own_slice hown7
  have hn8 := hgood.n8
  have HOWN7 := hide hown7
  have HGOOD := hide hgood
  clear hown7 hgood b1 b1n b2 b2n
  go_wp2_with fail
  refine (some27_any A0 cp0 raw m w1 (HDV.out.fr0 hf1) HML.out (fun x hx k => Nat.le_trans (HLG.out x hx k) (by unfold maxLen; omega)) (by omega)).mono ?_
  rintro e w2 ⟨v8, out, rfl, hown8, hrl, hso, hf2⟩
  obtain ⟨A8, c8, rfl, -, -, -⟩ := own_slice hown8
  obtain ⟨C, rfl, hnd, hcall⟩ := brd_new HOWN7.out HGOOD.out hf1 hown8 hrl hso hf2

  rw [hnd] at hcall ⊢
  have HCALL := hide hcall
  clear hcall hown8 hrl hso HOWN7 HGOOD hnd
  go_wp2_with fail
  refine HCALL.out.mono ?_
  rintro e w3 ⟨T, ds', rfl, hb⟩
  have HB := hide hb
  have hnd6 := hb.nd6
  have hf03 := hb.fr
  clear hb HCALL hf1 hf2 HDV HW HML HR1 HLG
  have HOK := hide HB.out.ok
  go_upto_region 10 with (fail)
  go_loopg [11, 12] l.length (fun m v11 i wr => RmR2 w3 C T ds' l.length m v11 i wr)
  case atStart => exact ⟨0, tsz, by omega, rfl, rfl, HB.out.at_, tsz_inv C, Nat.zero_le _, Fr.refl _ _, rfl⟩
  case round =>
    obtain ⟨j, s, hj, rfl, rfl, hat, hin, hck, hfr, hmm⟩ := hrel
    have HMM := hide hmm
    have HATr := hide hat
    have HINr := hide hin
    have HCK := hide hck
    have hfwr : Fr [] w wr := hf03.step hfr (fun y hy => .inr (HB.out.new y hy).1)
    clear hmm hat hin hck
    by_cases hlt : j < l.length
    · by_cases hn0 : 0 < C.nd
      · have hn1 := hn0
        obtain ⟨c, hc⟩ : ∃ c, l[j]? = some c := ⟨_, List.getElem?_eq_getElem hlt⟩
        obtain ⟨ob, oo, rfl, c0, c1, c2, c3⟩ := (HL.out.fr0 hfwr).tcl hc
        have hkl : (j : Int) < (l.length : Int) := by omega
        have hni : (0 : Int) < (C.nd : Int) := by omega
        have b1 : decide ((j : Int) < (l.length : Int)) = true := decide_eq_true hkl
        have b2 : decide ((0 : Int) < (C.nd : Int)) = true := decide_eq_true hni
        have hb5 := tcl_blk (w := wr) c
        have hf5 := tcl_fr (w := wr) c
        clear hc
        go_upto_region 14 with (fail)
        generalize wr.alloc (.cells #[.int .i64 c.dev, .int .i64 c.st, .int .u64 (c.wait : Int), .bool false] 36) = w5 at hb5 hf5 ⊢
        have hszr : w3.heap.size ≤ wr.heap.size := hfr.size
        generalize wr.heap.size = gc at hb5 hszr ⊢
        have d0 : w5.cell? ⟨gc, 0, none⟩ = some (.int .i64 c.dev) := hb5.cell 0
        have d1 : w5.cell? ⟨gc, 1, none⟩ = some (.int .i64 c.st) := hb5.cell 1
        have d2 : w5.cell? ⟨gc, 2, none⟩ = some (.int .u64 (c.wait : Int)) := hb5.cell 2
        have d3 : w5.cell? ⟨gc, 3, none⟩ = some (.bool false) := hb5.cell 3
        have HAT5 := hide (HATr.out.fr0 hf5)
        have hf35 : Fr T.wr w3 w5 := hfr.call hf5
        have hclk : s.clk ≤ 1152921504606846976 := HCK.out
        obtain ⟨d, k, hdn, hk4, hat⟩ := tatM_bounds (c := tclr c) (n := C.nd) (now := s.clk) rfl hn0
        have HTA := hide hat
        clear hb5 hf5 hat c0 c1 c2 c3 b1 b2
        go_wp2_with fail
        refine (at27_any (tclr c) C.nd s.clk w5 (by omega) hclk).mono ?_
        rintro e w5b ⟨rfl, hf5b⟩
        rw [HTA.out]
        dsimp only
        generalize s.clk + (tclr c).wait % 20 = t
        have HAT6 := hide (HAT5.out.fr0 hf5b)
        have hf36 : Fr T.wr w3 w5b := hf35.call hf5b
        clear d0 d1 d2 d3 HAT5 hf35 hf5b
        go_wp2_with fail
        refine (tset_any HAT6.out HOK.out HINr.out (d : Int) (k : Int) t).mono ?_
        rintro e w6 ⟨v6, rfl, hat6, hown6, hf6⟩
        obtain ⟨A6, c6, rfl, -, -, -⟩ := own_slice hown6
        have hcs := setM_cases C t d k s
        have hiv := setM_inv HOK.out HINr.out (now := t) (d : Int) (k : Int)
        have hck := setM_clk C t (d : Int) (k : Int) s HCK.out
        generalize setM C t (d : Int) (k : Int) s = r at hat6 hcs hiv hck ⊢
        have HAT7 := hide hat6
        have HIV := hide hiv
        have HCK7 := hide hck
        have HCS := hide hcs
        have hf37 : Fr T.wr w3 w6 := hf36.trans hf6
        clear hat6 hown6 hcs hiv hck hf36 HAT6
        obtain ⟨s', hs'⟩ : ∃ s', s' = r.1 := ⟨_, rfl⟩
        rw [← hs'] at HAT7 HIV HCK7
        have HS' := hide hs'
        clear hs'
        go_upto_if 90 with (fail)
        go_cut [11] (fun v11 wx => v11 = .int .u64 (s'.clk : Int) ∧ w6 = wx)
        case first =>
          rcases HCS.out with ⟨h1, h2⟩ | ⟨h1, h2, h3⟩
          · have b1 : (r.2.2 == 0) = false := beq_eq_false_iff_ne.2 h1
            have HE := hide (HS'.out.trans h2)
            clear h1 h2
            go_wp2
            go_meet
            exact ⟨by rw [HE.out], rfl⟩
          · have b1 : (r.2.2 == 0) = true := by rw [h1]; rfl
            rw [← HS'.out] at h3
            have HE3 := hide h3
            clear h1 h2 h3
            go_wp2
            go_meet
            exact ⟨by rw [HE3.out], rfl⟩
        case rest =>
          obtain ⟨rfl, rfl⟩ := hcut
          have HOWN := hide HIV.out.own
          clear HCS HS'
          go_wp2
          go_loopg [19] C.n (fun m i wr => HiR3 w6 C.n m i wr)
          case atStart => exact ⟨0, by omega, rfl, Fr.refl _ _, rfl⟩
          case round =>
            obtain ⟨jr, hjr, rfl, hfA, hmm⟩ := hrel
            have HMA := hide hmm
            clear hmm
            by_cases hjn : jr < C.n
            · have hjri : (jr : Int) < (C.n : Int) := by omega
              go_wp2
              go_loopg [20, 21] C.nd (fun m v20 i wr => RmB w6 C s' jr m v20 i wr)
              case atStart => exact ⟨0, by omega, rfl, rfl, hfA, rfl⟩
              case round =>
                obtain ⟨k, hk, rfl, rfl, hfB, hmm⟩ := hrel
                have HMB := hide hmm
                have HATk := hide (HAT7.out.fr0 hfB)
                have hub := useN_le C s'.st jr k
                clear hmm hfA
                by_cases hkn : k < C.nd
                · have hki : (k : Int) < (C.nd : Int) := by omega
                  have hst : stI C s' (k : Int) = (s'.st k : Int) := by rw [stI, if_pos ⟨by omega, hki⟩, Int.toNat_natCast]
                  have HST := hide hst
                  have h4 := HIV.out.st4 k
                  have HUN := hide (show useN C s'.st jr (k + 1) = useN C s'.st jr k + (if (jr : Int) ∈ needL (C.rl k) (s'.st k) then 1 else 0) from rfl)
                  have HNDP := hide (asc_nodup (HOK.out.asc k (s'.st k)))
                  have hLn := need_len HOK.out k (s'.st k)
                  have HLE : Hid (s'.st k < 4 → needL (C.rl k) (s'.st k) = C.rl k (s'.st k)) := hide (fun h => by rw [needL, if_neg (by omega)])
                  have HL4 : Hid (¬ s'.st k < 4 → needL (C.rl k) (s'.st k) = []) := hide (fun h => by rw [needL, if_pos (by omega)])
                  clear hst
                  go_wp2_with fail
                  refine (tstate_any HATk.out (k : Int)).mono ?_
                  rintro e w9 ⟨rfl, rfl⟩
                  rw [HST.out]
                  clear HST
                  generalize needL (C.rl k) (s'.st k) = L at HUN HNDP hLn HLE HL4
                  generalize useN C s'.st jr k = z0 at hub HUN ⊢
                  generalize s'.st k = sk at h4 HLE HL4 ⊢
                  have g0 : decide ((sk : Int) < 0) = false := decide_eq_false (by omega)
                  have g1 : decide ((4 : Int) < (sk : Int)) = false := decide_eq_false (by omega)
                  have g1n : decide (4 < sk) = false := decide_eq_false (by omega)
                  obtain ⟨wk, hwk⟩ : ∃ wk, wk = wr := ⟨_, rfl⟩
                  subst hwk
                  go_wp2
                  go_loopg [20, 23] L.length (fun m v20 i wr => RmD w6 L jr z0 m v20 i wr)
                  case atStart => exact ⟨0, by omega, rfl, rfl, hfB, rfl⟩
                  case round =>
                    obtain ⟨q, hq, rfl, rfl, hfD, hmm⟩ := hrel
                    have HMD := hide hmm
                    have hcl := cntTo_le L jr q
                    clear hmm hfB HATk
                    by_cases h44 : sk < 4
                    · have g2 : decide ((sk : Int) < 4) = true := decide_eq_true (by omega)
                      have g2n : decide (sk < 4) = true := decide_eq_true h44
                      have hski : (sk : Int) < 4 := by omega
                      have hx : out[k]? = some _ := List.getElem?_eq_getElem (by rw [HB.out.nd]; exact hkn)
                      obtain ⟨ob2, oo2, A', cp', rfl, cR, rowR⟩ := (HB.out.dv _ ((hf37.call hfD))).1.rail hx h44
                      rw [(HB.out.tie k _ hx).2, ← HLE.out h44] at cR rowR
                      have HROW := hide rowR
                      clear rowR hx
                      by_cases hql : q < L.length
                      · obtain ⟨v, hv⟩ : ∃ v, L[q]? = some v := ⟨_, List.getElem?_eq_getElem hql⟩
                        obtain ⟨o1, o2, rfl, e0⟩ := HROW.out.int hv
                        have hqi : (q : Int) < (L.length : Int) := by omega
                        have g3 : decide ((q : Int) < (L.length : Int)) = true := decide_eq_true hqi
                        have HVV := hide hv
                        clear hv
                        by_cases hvj : v = (jr : Int)
                        · have g4 : (v == (jr : Int)) = true := by simp [hvj]
                          have HN := hide (cntTo_yes HNDP.out HVV.out hvj)
                          clear hvj
                          generalize cntTo L jr q = cq at hcl HN ⊢
                          obtain ⟨zz, hzz⟩ : ∃ zz, zz = z0 + cq := ⟨_, rfl⟩
                          rw [← hzz]
                          have hzl : zz ≤ 100 := by omega
                          have hwr : IntKind.i64.wrap ((zz : Int) + 1) = (zz : Int) + 1 := by simp [IntKind.wrap, IntKind.signed, IntKind.bits]; omega
                          have HZZ := hide hzz
                          clear hzz
                          go_wp2
                          go_roundg (L.length - (q + 1))
                          case measure => rw [HMD.out]; omega
                          case rel => exact ⟨q + 1, by omega, by rw [HN.out, ← Nat.add_assoc, ← HZZ.out]; go_num, by go_num, hfD, rfl⟩
                        · have g4 : (v == (jr : Int)) = false := by simp [hvj]
                          have HN := hide (cntTo_no (L := L) HVV.out hvj)
                          clear hvj
                          generalize cntTo L jr q = cq at hcl HN ⊢
                          obtain ⟨zz, hzz⟩ : ∃ zz, zz = z0 + cq := ⟨_, rfl⟩
                          rw [← hzz]
                          have HZZ := hide hzz
                          clear hzz
                          go_wp2
                          go_roundg (L.length - (q + 1))
                          case measure => rw [HMD.out]; omega
                          case rel => exact ⟨q + 1, by omega, by rw [HN.out, ← HZZ.out], by go_num, hfD, rfl⟩
                      · have hqe : q = L.length := by omega
                        subst hqe
                        have g3 : decide ((L.length : Int) < (L.length : Int)) = false := decide_eq_false (by omega)
                        have HZ : Hid (z0 + cntTo L jr L.length = useN C s'.st jr (k + 1)) := hide (by rw [HUN.out, cntTo_all])
                        rw [HZ.out]
                        clear hcl
                        go_wp2
                        go_roundg (C.nd - (k + 1))
                        case measure => rw [HMB.out]; omega
                        case rel => exact ⟨k + 1, by omega, rfl, by go_num, hfD, rfl⟩
                    · have g2 : decide ((sk : Int) < 4) = false := decide_eq_false (by omega)
                      have g2n : decide (sk < 4) = false := decide_eq_false h44
                      have hqe : q = L.length := by
                        rw [HL4.out h44] at hq ⊢
                        simpa using hq
                      subst hqe
                      have HZ : Hid (z0 + cntTo L jr L.length = useN C s'.st jr (k + 1)) := hide (by rw [HUN.out, cntTo_all])
                      rw [HZ.out]
                      clear hcl
                      go_wp2
                      go_roundg (C.nd - (k + 1))
                      case measure => rw [HMB.out]; omega
                      case rel => exact ⟨k + 1, by omega, rfl, by go_num, hfD, rfl⟩
                · have hke : k = C.nd := by omega
                  subst hke
                  have hki : ¬ (C.nd : Int) < (C.nd : Int) := by omega
                  rw [show useN C s'.st jr C.nd = useF C s'.st jr from rfl] at hub ⊢
                  go_wp2
                  go_loopg [20, 24] C.n (fun m v20 i wr => RmE w6 C s' jr m v20 i wr)
                  case atStart => exact ⟨0, by omega, rfl, rfl, hfB, rfl⟩
                  case round =>
                    obtain ⟨k2, hk2, rfl, rfl, hfE, hmm⟩ := hrel
                    have HME := hide hmm
                    have HATe := hide (HAT7.out.fr0 hfE)
                    have hhb := heldN_le C.R s'.r jr k2
                    have HHN := hide (show heldN C.R s'.r jr (k2 + 1) = heldN C.R s'.r jr k2 + (if (C.R k2).sup = (jr : Int) ∧ 0 < s'.r.cnt k2 then 1 else 0) from rfl)
                    clear hmm hfB HATk
                    by_cases hk2n : k2 < C.n
                    · have hk2i : (k2 : Int) < (C.n : Int) := by omega
                      obtain ⟨ob2, oo2, rfl, r0, -, -⟩ := (HB.out.dv _ (hf37.call hfE)).2.rail hk2n
                      have hct : cntI T.pr s'.r (k2 : Int) = s'.r.cnt k2 := by rw [cntI, HATe.out.pn, if_pos ⟨by omega, hk2i⟩, Int.toNat_natCast]
                      have HCT := hide hct
                      clear hct
                      generalize s'.r.cnt k2 = ck at HHN HCT
                      generalize (C.R k2).sup = sp at HHN r0
                      generalize hu0 : useF C s'.st jr = u0 at hub ⊢
                      have HU0 := hide hu0
                      clear hu0
                      generalize heldN C.R s'.r jr k2 = hk0 at hhb HHN ⊢
                      obtain ⟨zz, hzz⟩ : ∃ zz, zz = u0 + hk0 := ⟨_, rfl⟩
                      rw [← hzz]
                      have hzl : zz ≤ 100 := by omega
                      have hwr : IntKind.i64.wrap ((zz : Int) + 1) = (zz : Int) + 1 := by simp [IntKind.wrap, IntKind.signed, IntKind.bits]; omega
                      have HZZ := hide hzz
                      clear hzz
                      by_cases he : sp = (jr : Int)
                      · have g1 : (sp == (jr : Int)) = true := by simp [he]
                        go_wp2_with fail
                        refine (tcount_any HATe.out (k2 : Int)).mono ?_
                        rintro e w9 ⟨rfl, rfl⟩
                        rw [HCT.out]
                        by_cases hp : 0 < ck
                        · have g2 : decide ((0 : Int) < (ck : Int)) = true := decide_eq_true (by omega)
                          have g2n : decide (0 < ck) = true := decide_eq_true hp
                          have HH := HHN.out
                          rw [if_pos ⟨he, hp⟩] at HH
                          have HHH := hide HH
                          clear HH he hp HHN
                          go_wp2
                          go_roundg (C.n - (k2 + 1))
                          case measure => rw [HME.out]; omega
                          case rel => exact ⟨k2 + 1, by omega, by rw [HHH.out, HU0.out, ← Nat.add_assoc, ← HZZ.out]; go_num, by go_num, hfE, rfl⟩
                        · have g2 : decide ((0 : Int) < (ck : Int)) = false := decide_eq_false (by omega)
                          have g2n : decide (0 < ck) = false := decide_eq_false hp
                          have HH := HHN.out
                          rw [if_neg (fun h => hp h.2)] at HH
                          have HHH := hide HH
                          clear HH he hp HHN
                          go_wp2
                          go_roundg (C.n - (k2 + 1))
                          case measure => rw [HME.out]; omega
                          case rel => exact ⟨k2 + 1, by omega, by rw [HHH.out, Nat.add_zero, HU0.out, ← HZZ.out], by go_num, hfE, rfl⟩
                      · have g1 : (sp == (jr : Int)) = false := by simp [he]
                        have HH := HHN.out
                        rw [if_neg (fun h => he h.1)] at HH
                        have HHH := hide HH
                        clear HH he HHN
                        go_wp2
                        go_roundg (C.n - (k2 + 1))
                        case measure => rw [HME.out]; omega
                        case rel => exact ⟨k2 + 1, by omega, by rw [HHH.out, Nat.add_zero, HU0.out, ← HZZ.out], by go_num, hfE, rfl⟩
                    · have hke2 : k2 = C.n := by omega
                      subst hke2
                      have hk2i : ¬ (C.n : Int) < (C.n : Int) := by omega
                      have hown := HOWN.out jr hjn
                      rw [Nat.add_comm] at hown
                      have hct : cntI T.pr s'.r (jr : Int) = useF C s'.st jr + heldN C.R s'.r jr C.n := by rw [cntI, HATe.out.pn, if_pos ⟨by omega, hjri⟩, Int.toNat_natCast, hown]
                      have HCT := hide hct
                      clear hct hown HHN
                      generalize useF C s'.st jr + heldN C.R s'.r jr C.n = zz at HCT ⊢
                      go_wp2_with fail
                      refine (tcount_any HATe.out (jr : Int)).mono ?_
                      rintro e w9 ⟨rfl, rfl⟩
                      rw [HCT.out]
                      go_wp2
                      go_roundg (C.n - (jr + 1))
                      case measure => rw [HMA.out]; omega
                      case rel => exact ⟨jr + 1, by omega, by go_num, hfE, rfl⟩
            · have hjre : jr = C.n := by omega
              subst hjre
              have hjri : ¬ (C.n : Int) < (C.n : Int) := by omega
              have hfin := hf37.call hfA
              have HATf := hide (HAT7.out.fr0 hfA)
              go_wp2
              go_roundg (l.length - (j + 1))
              case measure => rw [HMM.out]; omega
              case rel => exact ⟨j + 1, s', by omega, rfl, by go_num, HATf.out, HIV.out, HCK7.out, hfin, rfl⟩
      · have b1 : decide ((j : Int) < (l.length : Int)) = true := decide_eq_true (by omega)
        have b2 : decide ((0 : Int) < (C.nd : Int)) = false := decide_eq_false (by omega)
        go_wp2_with fail
        refine (awake27_any wr).mono ?_
        rintro e w7 ⟨rfl, hf7⟩
        go_wp2
        go_ret
        exact ⟨rfl, hfwr.call hf7⟩
    · have b1 : decide ((j : Int) < (l.length : Int)) = false := decide_eq_false (by omega)
      go_wp2_with fail
      refine (awake27_any wr).mono ?_
      rintro e w7 ⟨rfl, hf7⟩
      go_wp2
      go_ret
      exact ⟨rfl, hfwr.call hf7⟩
end Go.Proofs.Ytdocdgghphhdpaa

