/- Walks: the reference's device tree: Set. (Written by gen_tqw2.py.) -/
import Derived.Test.YtdocdgghphhdpaaMgDeviceTree19
import Derived.Test.YtdocdgghphhdpaaTrW2Mg
import Derived.Test.YtdocdgghphhdpaaDevR1Mg
namespace Go.Proofs.Ytdocdgghphhdpaa
open Go.RowKit

def TqSetRet (w : World) (T : TP) (ds : List DV) (C : TC) (r : TSt × List ROp × Int) (e : Ending) (w' : World) : Prop :=
  ∃ v, e = .returned (.tuple #[v, .int .i64 r.2.2]) ∧ TqAt w' T ds C r.1 ∧ w'.ownsRow w.heap.size 54 4 v r.2.1.length (ropcs r.2.1) ∧ Fr T.wr w w'
theorem TqSetRet.err {w w' : World} {T : TP} {ds : List DV} {C : TC} {s : TSt} {c : Int} {r : TSt × List ROp × Int} (hr : r = (s, [], c)) (h : TqAt w T ds C s) (k : Fr [] w w') : TqSetRet w T ds C r (.returned (.tuple #[.slice none 0 0, .int .i64 c])) w' := by
  subst hr
  exact ⟨_, rfl, h.fr0 k, own_nil _ _ _ _, k.mono (fun _ _ h => by cases h)⟩
def TqRel1 (w : World) (C : TC) (s : TSt) (d k : Nat) (m : Nat) (i : Value) (wr : World) : Prop :=
  ∃ j : Nat, j ≤ C.nd ∧ i = .int .i64 (j : Int) ∧ (∀ q, q < j → ¬ (C.par q = (d : Int) ∧ s.st q < k)) ∧ Fr [] w wr ∧ m = C.nd - j
def TqRel2 (w3 : World) (T : TP) (ds : List DV) (C : TC) (s : TSt) (now : Nat) (acq : List Int) (m : Nat) (v15 v16 : Value) (wr : World) : Prop :=
  ∃ j : Nat, j ≤ acq.length ∧ v16 = .int .i64 (j : Int) ∧ TqAt wr T ds C { s with r := (acqF C now (acq.take j) s.r).1 } ∧ wr.ownsRow w3.heap.size 54 4 v15 (acqF C now (acq.take j) s.r).2.length (ropcs (acqF C now (acq.take j) s.r).2) ∧ Fr T.wr w3 wr ∧ m = acq.length - j
def TqRel3 (w3 : World) (T : TP) (ds : List DV) (C : TC) (s : TSt) (now : Nat) (rel : List Int) (r0 : RSt) (ops0 : List ROp) (m : Nat) (v15 v19 : Value) (wr : World) : Prop :=
  ∃ j : Nat, j ≤ rel.length ∧ v19 = .int .i64 (j : Int) ∧ TqAt wr T ds C { s with r := (relF C now (rel.take j) r0).1 } ∧ wr.ownsRow w3.heap.size 54 4 v15 (ops0 ++ (relF C now (rel.take j) r0).2).length (ropcs (ops0 ++ (relF C now (rel.take j) r0).2)) ∧ Fr T.wr w3 wr ∧ m = rel.length - j
theorem keep2q {w1 w2 : World} {S : List Nat} {a0 a1 : Addr} {v0 v1 : Value} (h : w1.cell? a0 = some v0 ∧ w1.cell? a1 = some v1) (k : Fr S w1 w2) (n0 : a0.block ∉ S) (n1 : a1.block ∉ S) : w2.cell? a0 = some v0 ∧ w2.cell? a1 = some v1 := ⟨k.cell h.1 n0, k.cell h.2 n1⟩
set_option maxHeartbeats 8000000 in
set_option maxRecDepth 100000 in
theorem tqset_any {w : World} {T : TP} {ds : List DV} {C : TC} {s : TSt} (h : TqAt w T ds C s) (hC : TOk C) (hI : TInv C s) (d k : Int) (now : Nat) :
    Calls Try.prog 26 #[.pointer (some ⟨T.b, 0, none⟩), .int .i64 d, .int .i64 k, .int .u64 (now : Int)] w (TqSetRet w T ds C (setM C now d k s)) := by
  obtain ⟨i0, hi0, hz0, hz1, hz2⟩ := info_parts rop_info
  have HRI := hide (And.intro hi0 (And.intro hz0 (And.intro hz1 hz2)))
  have HAT := hide h
  have HC := hide hC
  have HI := hide hI
  clear hi0 hz0 hz1 hz2
  obtain ⟨c0, c1, c2, c3⟩ := h.cells
  by_cases hbad : ¬ (0 ≤ d ∧ d < (C.nd : Int)) ∨ ¬ (0 ≤ k ∧ k ≤ 4) ∨ now < s.clk ∨ MaxT < now
  · have HM : Hid (setM C now d k s = (s, [], 1)) := hide (by rw [setM, if_pos hbad])
    have hcase : (decide (d < 0) = true) ∨ (decide (d < 0) = false ∧ decide ((C.nd : Int) ≤ d) = true) ∨ (decide (d < 0) = false ∧ decide ((C.nd : Int) ≤ d) = false ∧ decide (k < 0) = true) ∨ (decide (d < 0) = false ∧ decide ((C.nd : Int) ≤ d) = false ∧ decide (k < 0) = false ∧ decide ((4 : Int) < k) = true) ∨ (decide (d < 0) = false ∧ decide ((C.nd : Int) ≤ d) = false ∧ decide (k < 0) = false ∧ decide ((4 : Int) < k) = false ∧ decide ((now : Int) < (s.clk : Int)) = true ∧ decide (now < s.clk) = true) ∨ (decide (d < 0) = false ∧ decide ((C.nd : Int) ≤ d) = false ∧ decide (k < 0) = false ∧ decide ((4 : Int) < k) = false ∧ decide ((now : Int) < (s.clk : Int)) = false ∧ decide (now < s.clk) = false ∧ decide ((1152921504606846976 : Int) < (now : Int)) = true) := by
      unfold MaxT at hbad
      simp only [decide_eq_true_eq, decide_eq_false_iff_not]
      omega
    clear h hC hI hbad c1 c2
    rcases hcase with b1 | ⟨b1, b2⟩ | ⟨b1, b2, b3⟩ | ⟨b1, b2, b3, b4⟩ | ⟨b1, b2, b3, b4, b5, b6⟩ | ⟨b1, b2, b3, b4, b5, b6, b7⟩
    all_goals
      go_enter Try.func26, Try.ntmps26
      go_wp2
      go_ret2
      exact TqSetRet.err HM.out HAT.out (Fr.refl _ _)
  have hd : 0 ≤ d ∧ d < (C.nd : Int) := by omega
  have hk : 0 ≤ k ∧ k ≤ 4 := by omega
  have hn : ¬ (now < s.clk ∨ MaxT < now) := by omega
  obtain ⟨d, rfl⟩ := Int.eq_ofNat_of_zero_le hd.1
  obtain ⟨k, rfl⟩ := Int.eq_ofNat_of_zero_le hk.1
  have hdn : d < C.nd := by omega
  have hk4 : k ≤ 4 := by omega
  have HM0 : Hid (setM C now (d : Int) (k : Int) s = if Blocked C s d k then (s, [], 9) else ((setOk C now d k s).1, (setOk C now d k s).2, 0)) := hide (by
    rw [setM, if_neg hbad, Int.toNat_natCast, Int.toNat_natCast])
  have hn1 : s.clk ≤ now := by omega
  have hn2 : now ≤ 1152921504606846976 := by unfold MaxT at hn; omega
  have a1 : decide ((d : Int) < 0) = false := decide_eq_false (by omega)
  have a2 : decide ((C.nd : Int) ≤ (d : Int)) = false := decide_eq_false (by omega)
  have a2n : decide (C.nd ≤ d) = false := decide_eq_false (by omega)
  have a3 : decide ((k : Int) < 0) = false := decide_eq_false (by omega)
  have a4 : decide ((4 : Int) < (k : Int)) = false := decide_eq_false (by omega)
  have a4n : decide (4 < k) = false := decide_eq_false (by omega)
  have b1 : decide ((now : Int) < (s.clk : Int)) = false := decide_eq_false (by omega)
  have b1n : decide (now < s.clk) = false := decide_eq_false (by omega)
  have b2 : decide ((1152921504606846976 : Int) < (now : Int)) = false := decide_eq_false (by omega)
  obtain ⟨x, hx, hpx, hrx, hra, ob, oo, hA, hpd⟩ := h.dev hdn
  have HA := hide hA
  have hSS := (h.sS (by omega)).1
  have HSS := hide hSS
  rw [hA] at c0
  rw [hSS] at c2
  have p0 := hpd.1
  rw [hpx] at p0
  have hdi : (d : Int) < (C.nd : Int) := by omega
  have hnd64 := hC.nd64
  have hpar := hC.par d hdn
  clear h hC hI hbad hd hk hn hx hpx hrx hra hA hpd hSS c1
  go_enter Try.func26, Try.ntmps26
  by_cases hpb : 0 ≤ C.par d ∧ k < s.st (C.par d).toNat
  · have HM : Hid (setM C now (d : Int) (k : Int) s = (s, [], 9)) := hide (by rw [HM0.out, if_pos (.inl hpb)])
    obtain ⟨p, hp⟩ := Int.eq_ofNat_of_zero_le hpb.1
    rw [hp, Int.toNat_natCast] at hpb
    rw [hp] at p0
    have hpn : p < C.nd := by omega
    have q0 := HAT.out.stAt hpn
    have g1 : decide ((0 : Int) ≤ (p : Int)) = true := decide_eq_true (by omega)
    have g2 : decide ((k : Int) < (s.st p : Int)) = true := decide_eq_true (by omega)
    have g2n : decide (k < s.st p) = true := decide_eq_true hpb.2
    have hpi : (p : Int) < (C.nd : Int) := by omega
    clear hpb hp hpar
    go_wp2
    go_ret2
    exact TqSetRet.err HM.out HAT.out (Fr.refl _ _)
  have hcase : (decide ((0 : Int) ≤ C.par d) = false) ∨ (∃ p : Nat, p < C.nd ∧ C.par d = (p : Int) ∧ s.st p ≤ k) := by
    by_cases h0 : 0 ≤ C.par d
    · obtain ⟨p, hp⟩ := Int.eq_ofNat_of_zero_le h0
      refine .inr ⟨p, by omega, hp, ?_⟩
      rw [hp, Int.toNat_natCast] at hpb
      omega
    · exact .inl (decide_eq_false h0)
  have HNP : Hid (Blocked C s d k ↔ ∃ i, i < C.nd ∧ C.par i = (d : Int) ∧ s.st i < k) := hide ⟨fun h => h.elim (fun h => absurd h hpb) id, .inr⟩
  clear hpb
  go_upto_region 4 with (fail)
  go_cut [10, 73] (fun _ v wx => v = .bool false ∧ w = wx)
  case first =>
    rcases hcase with g1 | ⟨p, hpn, hp, hle⟩
    · go_wp2
      go_meet
      exact ⟨rfl, rfl⟩
    · have q0 := HAT.out.stAt hpn
      have g1 : decide ((0 : Int) ≤ (p : Int)) = true := decide_eq_true (by omega)
      have g2 : decide ((k : Int) < (s.st p : Int)) = false := decide_eq_false (by omega)
      have g2n : decide (k < s.st p) = false := decide_eq_false (by omega)
      have hpi : (p : Int) < (C.nd : Int) := by omega
      rw [hp]
      clear hp
      go_wp2
      go_meet
      exact ⟨rfl, rfl⟩
  case rest =>
    obtain ⟨rfl, rfl⟩ := hcut
    clear hcase p0 hpar b1 b1n b2 a1 a2 a2n a3 a4 a4n
    go_wp2
    go_loopg [11] C.nd (fun m i wr => TqRel1 w C s d k m i wr)
    case atStart => exact ⟨0, by omega, rfl, fun q hq => by omega, Fr.refl _ _, rfl⟩
    case round =>
      obtain ⟨j, hj, rfl, hall, hfr, hmm⟩ := hrel
      have HMM := hide hmm
      have HALL := hide hall
      have HATR := hide (HAT.out.fr0 hfr)
      clear hmm hall c0 c2 c3
      by_cases hjn : j < C.nd
      · have hji : (j : Int) < (C.nd : Int) := by omega
        obtain ⟨y, hy, hpy, hry, hray, ob', oo', hA', d0, -⟩ := HATR.out.dev hjn
        rw [HA.out] at hA'
        injection hA' with hA'
        injection hA' with e1 e2
        subst e1 e2
        have q0 := HATR.out.stAt hjn
        obtain ⟨t0, -, t2, -⟩ := HATR.out.cells
        rw [HA.out] at t0
        rw [HSS.out] at t2
        rw [hpy] at d0
        have HSTEP : Hid (¬ (C.par j = (d : Int) ∧ s.st j < k) → ∀ q, q < j + 1 → ¬ (C.par q = (d : Int) ∧ s.st q < k)) := hide (fun h q hq => by
          by_cases e : q = j
          · subst e; exact h
          · exact HALL.out q (by omega))
        have HBL : Hid ((C.par j = (d : Int) ∧ s.st j < k) → setM C now (d : Int) (k : Int) s = (s, [], 9)) := hide (fun h => by rw [HM0.out, if_pos (HNP.out.2 ⟨j, hjn, h.1, h.2⟩)])
        clear hy hpy hry hray HALL
        generalize C.par j = pj at d0 HSTEP HBL
        generalize s.st j = sj at q0 HSTEP HBL
        by_cases he : pj = (d : Int)
        · have k1 : (pj == (d : Int)) = true := by simp [he]
          by_cases hs : sj < k
          · have k2 : decide ((sj : Int) < (k : Int)) = true := decide_eq_true (by omega)
            have k2n : decide (sj < k) = true := decide_eq_true hs
            have HM := hide (HBL.out ⟨he, hs⟩)
            clear he hs HSTEP HBL
            go_wp2
            go_ret2
            exact TqSetRet.err HM.out HAT.out hfr
          · have k2 : decide ((sj : Int) < (k : Int)) = false := decide_eq_false (by omega)
            have k2n : decide (sj < k) = false := decide_eq_false hs
            have HST := hide (HSTEP.out (fun h => hs h.2))
            clear he hs HSTEP HBL
            go_wp2
            go_roundg (C.nd - (j + 1))
            case measure => rw [HMM.out]; omega
            case rel => exact ⟨j + 1, by omega, by go_num, HST.out, hfr, rfl⟩
        · have k1 : (pj == (d : Int)) = false := by simp [he]
          have HST := hide (HSTEP.out (fun h => he h.1))
          clear he HSTEP HBL
          go_wp2
          go_roundg (C.nd - (j + 1))
          case measure => rw [HMM.out]; omega
          case rel => exact ⟨j + 1, by omega, by go_num, HST.out, hfr, rfl⟩
      · have hje : j = C.nd := by omega
        subst hje
        have hji : ¬ (C.nd : Int) < (C.nd : Int) := by omega
        have hnb : ¬ Blocked C s d k := fun h => by
          obtain ⟨i, h1, h2, h3⟩ := HNP.out.1 h
          exact HALL.out i h1 ⟨h2, h3⟩
        have HM : Hid (setM C now (d : Int) (k : Int) s = ((setOk C now d k s).1, (setOk C now d k s).2, 0)) := hide (by rw [HM0.out, if_neg hnb])
        clear hnb HNP HALL HM0
        obtain ⟨y, hy, hpy, hry, hray, ob', oo', hA', c0, c1, c2, c3, c4, c5, c6, c7, c8, c9, c10, c11, c12⟩ := HATR.out.dev hdn
        rw [HA.out] at hA'
        injection hA' with hA'
        injection hA' with e1 e2
        subst e1 e2
        have q0 := HATR.out.stAt hdn
        obtain ⟨t0, -, t2, -⟩ := HATR.out.cells
        rw [HSS.out] at t2
        rw [HA.out] at t0
        have HRA := hide hray
        have hlen : ∀ q, (y.rl q).length ≤ 4096 := fun q => by rw [hry]; have := HC.out.len d q; omega
        have HLEN := hide hlen
        have hst4 := HI.out.st4 d
        have HCH : Hid (changeM y.rl (s.st d : Int) (k : Int) = (acqs C s d k, rels C s d k, 0)) := hide (by
          rw [hry, changeM, if_pos (by omega), Int.toNat_natCast, Int.toNat_natCast, if_pos ⟨HC.out.asc d _, HC.out.asc d _⟩]
          rfl)
        clear hy hpy hry hray hlen
        go_upto_region 11 with (fail)
        have HQ := hide (And.intro (Fr.refl [] wr) (And.intro t0 (And.intro t2 (And.intro q0 (And.intro c0 (And.intro c1 (And.intro c2 (And.intro c3 (And.intro c4 (And.intro c5 (And.intro c6 (And.intro c7 (And.intro c8 (And.intro c9 (And.intro c10 (And.intro c11 c12))))))))))))))))
        go_region_held3 (fun w' => Fr [] wr w' ∧ w'.cell? ⟨T.b, 0, none⟩ = some (.slice (some ⟨ob, oo, none⟩) C.nd T.cA) ∧ w'.cell? ⟨T.b, 2, none⟩ = some (.slice (some ⟨T.gS, 0, none⟩) C.nd T.cS) ∧ w'.cell? ⟨T.gS, d, none⟩ = some (.int .i64 (s.st d : Int)) ∧ w'.cell? ⟨ob, oo + d * 13, none⟩ = some (.int .i64 y.d.par) ∧ w'.cell? ⟨ob, oo + d * 13 + 1, none⟩ = some (y.d.rf 0) ∧ w'.cell? ⟨ob, oo + d * 13 + 2, none⟩ = some (y.d.rf 1) ∧ w'.cell? ⟨ob, oo + d * 13 + 3, none⟩ = some (y.d.rf 2) ∧ w'.cell? ⟨ob, oo + d * 13 + 4, none⟩ = some (y.d.rf 3) ∧ w'.cell? ⟨ob, oo + d * 13 + 5, none⟩ = some (.int .i64 (y.d.df 0)) ∧ w'.cell? ⟨ob, oo + d * 13 + 6, none⟩ = some (.int .i64 (y.d.df 1)) ∧ w'.cell? ⟨ob, oo + d * 13 + 7, none⟩ = some (.int .i64 (y.d.df 2)) ∧ w'.cell? ⟨ob, oo + d * 13 + 8, none⟩ = some (.int .i64 (y.d.df 3)) ∧ w'.cell? ⟨ob, oo + d * 13 + 9, none⟩ = some (.int .i64 (y.d.df 4)) ∧ w'.cell? ⟨ob, oo + d * 13 + 10, none⟩ = some (.int .i64 (y.d.df 5)) ∧ w'.cell? ⟨ob, oo + d * 13 + 11, none⟩ = some (.int .i64 y.d.wd) ∧ w'.cell? ⟨ob, oo + d * 13 + 12, none⟩ = some (.int .i64 y.d.ws)) (first | exact keepSet HQ.out (Fr.refl _ _).drew | exact keepSet (by assumption) (Fr.refl _ _).drew | exact keepSet (by assumption) hf3) (first | (go_at_call 68; refine (rchange27_any y.d y.rl (s.st d : Int) (k : Int) _ (HRA.out.fr0 (And.left (by assumption))) HLEN.out).mono ?_; rintro e w3 ⟨va, vr, rfl, howa, howr, hf3⟩))
        rw [HCH.out]
        rw [HCH.out] at howa howr
        dsimp only
        obtain ⟨Aa, ca, rfl, -, hrwa, hlwa⟩ := own_slice howa
        obtain ⟨Ar, cr, rfl, -, hrwr, hlwr⟩ := own_slice howr
        have hfw : Fr [] wr w3 := (Fr.refl [] wr).drew.call hf3
        have hf03 : Fr [] w w3 := hfr.call hfw
        have hwsz := hfr.size
        have hHAT3 := HAT.out.fr0 hf03
        obtain ⟨ha1, ha2⟩ := acqs_ok (s := s) (k := k) HC.out hdn
        obtain ⟨hr1, hr2⟩ := rels_ok (s := s) (k := k) HC.out hdn
        have hal : (acqs C s d k).length ≤ 64 := Nat.le_trans (List.length_filter_le _ _) (need_len HC.out d k)
        have hrl : (rels C s d k).length ≤ 64 := by
          unfold rels
          rw [List.length_reverse]
          exact Nat.le_trans (List.length_filter_le _ _) (need_len HC.out d _)
        have HSO := hide (show setOk C now d k s = (⟨rup s.st d k, (relF C now (rels C s d k) (acqF C now (acqs C s d k) s.r).1).1, now⟩, (acqF C now (acqs C s d k) s.r).2 ++ (relF C now (rels C s d k) (acqF C now (acqs C s d k) s.r).1).2) from rfl)
        simp only at hrwa hrwr
        have hlwa' : ∀ ad, Aa = some ad → w.heap.size ≤ ad.block := fun ad e => Nat.le_trans hwsz (by have := (hlwa ad e).1; simpa using this)
        have hlwr' : ∀ ad, Ar = some ad → w.heap.size ≤ ad.block := fun ad e => Nat.le_trans hwsz (by have := (hlwr ad e).1; simpa using this)
        generalize acqs C s d k = acq at hrwa ha1 ha2 hal HSO ⊢
        generalize rels C s d k = rel at hrwr hr1 hr2 hrl HSO ⊢
        have HA1 := hide ha1
        have HA2 := hide ha2
        have HR1 := hide hr1
        have HR2 := hide hr2
        have hlw := HAT.out.low
        have hwrl : ∀ g ∈ T.wr, g < w.heap.size := fun g hg => by
          simp only [TP.wr, List.mem_cons, List.not_mem_nil, or_false] at hg
          obtain ⟨h1, h2, ⟨h3, h4, h5, -⟩, -, -⟩ := hlw
          omega
        have HWRL := hide hwrl
        have HOFA : Hid (Off Aa T.wr) := hide (fun ad e hm => by have := hlwa' ad e; have := HWRL.out _ hm; omega)
        have HOFR : Hid (Off Ar T.wr) := hide (fun ad e hm => by have := hlwr' ad e; have := HWRL.out _ hm; omega)
        have hsz3 : w.heap.size ≤ w3.heap.size := hf03.size
        have HLW3 := hide (hlw.mono hsz3)
        have HOWN0 := hide HI.out.own
        have hcl : s.r.clk ≤ now := Nat.le_trans HI.out.clk hn1
        obtain ⟨t0', -, t2', t3'⟩ := hHAT3.cells
        rw [HSS.out] at t2'
        have hn0 : 0 < C.nd := by omega
        have q0' := hHAT3.stAt hdn
        have g3 := hHAT3.blk.frozen 3
        have g0 := (hHAT3.sS hn0).2.frozen d
        have hnS := hHAT3.neS hn0
        have hHAT4 := (hHAT3.setClk now).setSt hn0 d k
        have g0' := ((hHAT3.setClk now).sS hn0).2.frozen d
        have q0'' := (hHAT3.setClk now).stAt hdn
        have HAT4 := hide hHAT4
        have HF34 : Hid (Fr T.wr w3 ((w3.setCell ⟨T.b, 3, none⟩ (.int .u64 (now : Int))).setCell ⟨T.gS, d, none⟩ (.int .i64 (k : Int)))) := hide (((Fr.refl _ _).set (.inl (by simp [TP.wr])) _).set (.inl (by simp [TP.wr])) _)
        have HRWA := hide (hrwa.fr HF34.out HOFA.out)
        have HRWR := hide (hrwr.fr HF34.out HOFR.out)
        clear howa howr hrwa hrwr hlwa hlwr hlwa' hlwr' ha1 ha2 hr1 hr2 hlw hwrl hfw hHAT3 hHAT4 hf3 HQ hst4
        clear c0 c1 c2 c3 c4 c5 c6 c7 c8 c9 c10 c11 c12 q0 t0 t2
        go_upto_region 13 with (fail)
        generalize (w3.setCell ⟨T.b, 3, none⟩ (.int .u64 (now : Int))).setCell ⟨T.gS, d, none⟩ (.int .i64 (k : Int)) = w4 at HAT4 HF34 HRWA HRWR ⊢
        have HF04 : Hid (Fr T.wr w w4) := hide (Fr.trans (hf03.mono (fun _ _ h => by cases h)) HF34.out)
        have HLW4 := hide (HLW3.out.mono HF34.out.size)
        have hsz4 : w.heap.size ≤ w4.heap.size := HF04.out.size
        have HPN := hide HAT.out.pn
        clear t0' t2' t3' q0' q0'' g0 g0' g3 hnS HF34 HLW3 HRA HCH HLEN hfr HATR hji hsz3 hf03
        go_wp2
        go_loopg [15, 16] acq.length (fun m v15 v16 wr => TqRel2 w4 T ds C ⟨rup s.st d k, s.r, now⟩ now acq m v15 v16 wr)
        case atStart => exact ⟨0, by omega, rfl, HAT4.out, own_nil _ _ _ _, Fr.refl _ _, rfl⟩
        case round =>
          obtain ⟨j, hj, rfl, hat, hown, hfr, hmm⟩ := hrel
          obtain ⟨A16, c16, rfl, -, -, -⟩ := own_slice hown
          have HMJ := hide hmm
          have HATJ := hide hat
          have HOWJ := hide hown
          have hoj := acq_own (now := now) HC.out.ch (l := acq.take j) (fun v hv => HA1.out v (List.mem_of_mem_take hv)) (HA2.out.sublist (List.take_sublist _ _)) HOWN0.out
          have hclj : (acqF C now (acq.take j) s.r).1.clk ≤ now := by
            rcases acq_clk (C := C) (now := now) (l := acq.take j) (r := s.r) with h | h <;> omega
          have hlnj := acqF_len HC.out now (l := acq.take j) (r := s.r) (fun v hv => HA1.out v (List.mem_of_mem_take hv))
          rw [List.length_take, Nat.min_eq_left hj] at hlnj
          have HCNJ : Hid (∀ q, q < C.n → (acqF C now (acq.take j) s.r).1.cnt q ≤ 90000) := hide (fun q hq => by
            have h1 := Own.le (B := 65) hoj (fun q _ => by
              have := useF_le C s.st q
              split <;> omega) q hq
            have := HC.out.n64
            omega)
          clear hmm hat hown hoj
          by_cases hja : j < acq.length
          · obtain ⟨v, hv⟩ : ∃ v, acq[j]? = some v := ⟨_, List.getElem?_eq_getElem hja⟩
            have hvb := HA1.out v (List.mem_of_getElem? hv)
            have HSN := hide (show acqF C now (acq.take (j + 1)) s.r = _ from by rw [take_succ_some hv, acqF_snoc])
            obtain ⟨q, rfl⟩ := Int.eq_ofNat_of_zero_le hvb.1
            have hqn : q < C.n := by omega
            obtain ⟨o1, o2, rfl, e0⟩ := (HRWA.out.fr hfr HOFA.out).int hv
            obtain ⟨-, t1, -, -⟩ := HATJ.out.cells
            obtain ⟨hch, hchl⟩ := HC.out.ch q hqn
            have hjai : (j : Int) < (acq.length : Int) := by omega
            rw [Int.toNat_natCast] at HSN
            have HCHN : Hid (Chn T.pr.n C.R q (C.ch q)) := hide (by rw [HPN.out]; exact hch)
            have HCN2 : Hid (∀ q, q < T.pr.n → (acqF C now (acq.take j) s.r).1.cnt q ≤ 90000) := hide (by rw [HPN.out]; exact HCNJ.out)
            generalize hAJ : acqF C now (acq.take j) s.r = aj at HATJ HOWJ hclj hlnj HCN2 HSN HCNJ ⊢
            obtain ⟨rj, oj⟩ := aj
            simp only at HATJ HOWJ hclj hlnj HCN2 HSN HCNJ
            have HNB1 : Hid (T.b ∉ [T.pr.b, T.pr.gB, T.pr.gC]) := hide (by have := HATJ.out.ne; simp; omega)
            have HNB2 : Hid (o1 ∉ [T.pr.b, T.pr.gB, T.pr.gC]) := hide (fun hm => HOFA.out _ rfl (by simp at hm; simp [TP.wr]; omega))
            have HQ := hide (And.intro t1 e0)
            clear hv hvb hch hAJ t1 e0
            go_upto_region 17 with (fail)
            go_region_held3 (fun w' => w'.cell? ⟨T.b, 1, none⟩ = some (.pointer (some ⟨T.pr.b, 0, none⟩)) ∧ w'.cell? ⟨o1, o2 + j, none⟩ = some (.int .i64 (q : Int))) (first | exact keep2q HQ.out (Fr.refl [] _).drew (by simp) (by simp) | exact keep2q (by assumption) (Fr.refl [] _).drew (by simp) (by simp) | exact keep2q (by assumption) hf4 HNB1.out HNB2.out | exact keep2q HQ.out hf4 HNB1.out HNB2.out) (first | (go_at_call 69; refine (rqacquire_ok HCHN.out (by omega) (by first | exact HATJ.out.rl.fr0 (Fr.refl [] _).drew | exact HATJ.out.rl) HCN2.out hclj hn2).mono ?_; rintro e w5 ⟨v4, rfl, hrl4, hown4, hf4⟩))
            have hl4 := add_len C.R now q (C.ch q) { rj with clk := now }
            generalize addC C.R now q (C.ch q) { rj with clk := now } = a4 at hrl4 hown4 HSN hl4
            obtain ⟨r4, o4⟩ := a4
            simp only at hrl4 hown4 HSN hl4
            have HAT5 := hide (HATJ.out.rails ((Fr.refl [T.pr.b, T.pr.gB, T.pr.gC] wr).drew.trans hf4) hrl4)
            obtain ⟨A19, c19, rfl, -, hrow4, -⟩ := own_slice hown4
            have hsz5 := hfr.size
            have hsz6 : wr.heap.size ≤ w5.heap.size := hf4.size
            have hobw : ∀ g, (Value.slice A16 oj.length c16).ownBlock = some g → g ∉ [T.pr.b, T.pr.gB, T.pr.gC] := fun g hg hm => by
              have h1 := (own_block HOWJ.out hg).1
              have h2 := HWRL.out g (by simp at hm; simp [TP.wr]; omega)
              omega
            have hf45 : Fr [T.pr.b, T.pr.gB, T.pr.gC] wr w5 := (Fr.refl [T.pr.b, T.pr.gB, T.pr.gC] wr).drew.trans hf4
            have HOW4 := hide (own_fr HOWJ.out hf45 hobw)
            have HROW4 := hide hrow4
            have hfr4 : Fr T.wr w4 w5 := hfr.trans (hf45.mono (fun y _ hm => by simp at hm; simp [TP.wr]; omega))
            clear hrl4 hown4 hrow4 hobw hf4 hf45 hfr HQ
            go_upto_region 16 with (first
              | (at_builtin
                 refine wpList_append_row _ rfl (.tmp 154) (.tmp 155) _ rfl w4.heap.size 54 i0 (.agg #[.int .i64 0, .bool false, .int .u64 0, .int .u64 0]) 4 32 Try.underlying39 HRI.out.1 HRI.out.2.1 HRI.out.2.2.1 HRI.out.2.2.2 rfl (by omega) (.slice A16 oj.length c16) oj.length (ropcs oj) rfl
                   HOW4.out A19 o4.length c19 (ropcs o4) rfl (ropcs_len o4) HROW4.out (ropcs_one o4) (by simp only [maxLen]; omega) (by omega) (by omega) ?_
                 intro v5 w6 hown5 hg5 hat5))
            obtain ⟨A5, c5', rfl, -, -, -⟩ := own_slice hown5
            have hf56 : Fr (Value.slice A16 oj.length c16).ownBlock.toList w5 w6 := Fr.of_grown hg5
            have hob : ∀ y ∈ (Value.slice A16 oj.length c16).ownBlock.toList, w4.heap.size ≤ y := fun y hy => (own_block HOW4.out (by simpa using hy)).1
            have HAT6 := hide (HAT5.out.frGe HLW4.out hf56 hob)
            have hfr5 : Fr T.wr w4 w6 := hfr4.step hf56 (fun y hy => .inr (hob y hy))
            have HOW5 := hide hown5
            clear hown5 hg5 hat5 hf56 hob HROW4 HOW4 HAT5
            go_wp2
            go_roundg (acq.length - (j + 1))
            case measure => rw [HMJ.out]; omega
            case rel => exact ⟨j + 1, by omega, by go_num, by rw [HSN.out]; exact HAT6.out, by rw [HSN.out, ropcs_app, List.length_append]; exact HOW5.out, hfr5, rfl⟩
          · have hje : j = acq.length := by omega
            subst hje
            have hjai : ¬ (acq.length : Int) < (acq.length : Int) := by omega
            rw [List.take_length] at HATJ HOWJ hclj hlnj ⊢
            obtain ⟨f1, HOA, HR3, HF1⟩ : ∃ f1 : Nat → Nat, Hid (Own C.n C.R (acqF C now acq s.r).1 f1) ∧ Hid (∀ v ∈ rel, 0 ≤ v ∧ v < (C.n : Int) ∧ 1 ≤ f1 v.toNat) ∧ Hid (∀ q, f1 q ≤ 65) :=
              ⟨fun j => useF C s.st j + if (j : Int) ∈ acq then 1 else 0, hide (acq_own HC.out.ch HA1.out HA2.out HOWN0.out), hide (fun v hv => by
                have h := HR1.out v hv
                exact ⟨h.1, h.2.1, Nat.le_trans h.2.2 (Nat.le_add_right _ _)⟩), hide (fun q => by
                have := useF_le C s.st q
                have := HC.out.nd64
                show _ + _ ≤ _
                split <;> omega)⟩
            have HFRJ := hide hfr
            clear HCNJ hfr HRWA HOFA HA1 HA2 HOWN0
            generalize hAJ : (acqF C now acq s.r).1 = r0 at HATJ hclj HOA HSO
            generalize hAO : (acqF C now acq s.r).2 = ops0 at HOWJ hlnj HSO ⊢
            clear hAJ hAO
            go_wp2
            go_loopg [15, 19] rel.length (fun m v15 v19 wr => TqRel3 w4 T ds C ⟨rup s.st d k, s.r, now⟩ now rel r0 ops0 m v15 v19 wr)
            case atStart => exact ⟨0, by omega, rfl, by simpa [relF] using HATJ.out, by simpa [relF] using HOWJ.out, HFRJ.out, rfl⟩
            case round =>
              obtain ⟨i, hi, rfl, hat, hown, hfr, hmm⟩ := hrel
              obtain ⟨A17, c17, rfl, -, -, -⟩ := own_slice hown
              have HMI := hide hmm
              have HATI := hide hat
              have HOWI := hide hown
              have hoi := rel_own (now := now) HC.out.ch (l := rel.take i) (r := r0) (f := f1) (fun v hv => HR3.out v (List.mem_of_mem_take hv)) (HR2.out.sublist (List.take_sublist _ _)) HOA.out
              have hcli : (relF C now (rel.take i) r0).1.clk ≤ now := by
                rcases rel_clk (C := C) (now := now) (l := rel.take i) (r := r0) with h | h <;> omega
              have hlni := relF_len HC.out now (l := rel.take i) (r := r0) (fun v hv => ⟨(HR3.out v (List.mem_of_mem_take hv)).1, (HR3.out v (List.mem_of_mem_take hv)).2.1⟩)
              rw [List.length_take, Nat.min_eq_left hi] at hlni
              have HCNI : Hid (∀ q, q < C.n → (relF C now (rel.take i) r0).1.cnt q ≤ 90000) := hide (fun q hq => by
                have h1 := Own.le (B := 65) hoi (fun q _ => by
                  have := HF1.out q
                  omega) q hq
                have := HC.out.n64
                omega)
              have HOI := hide hoi
              clear hmm hat hown hoi
              by_cases hir : i < rel.length
              · obtain ⟨v, hv⟩ : ∃ v, rel[i]? = some v := ⟨_, List.getElem?_eq_getElem hir⟩
                have hvb := HR3.out v (List.mem_of_getElem? hv)
                have HSN := hide (show relF C now (rel.take (i + 1)) r0 = _ from by rw [take_succ_some hv, relF_snoc])
                have hnin : v ∉ rel.take i := by
                  have h1 := HR2.out.sublist (List.take_sublist (i + 1) rel)
                  rw [take_succ_some hv] at h1
                  exact fun hm => (List.nodup_append.1 h1).2.2 v hm v (by simp) rfl
                obtain ⟨q, rfl⟩ := Int.eq_ofNat_of_zero_le hvb.1
                have hqn : q < C.n := by omega
                obtain ⟨o1, o2, rfl, e0⟩ := (HRWR.out.fr hfr HOFR.out).int hv
                obtain ⟨-, t1, -, -⟩ := HATI.out.cells
                obtain ⟨hch, hchl⟩ := HC.out.ch q hqn
                have hiri : (i : Int) < (rel.length : Int) := by omega
                rw [Int.toNat_natCast] at HSN hvb
                have HCHN : Hid (Chn T.pr.n C.R q (C.ch q)) := hide (by rw [HPN.out]; exact hch)
                have HCN2 : Hid (∀ q, q < T.pr.n → (relF C now (rel.take i) r0).1.cnt q ≤ 90000) := hide (by rw [HPN.out]; exact HCNI.out)
                have HCN3 : Hid (∀ q, q < T.pr.n → (relF C now (rel.take i) r0).1.cnt q ≤ 100000) := hide (fun q hq => Nat.le_trans (HCN2.out q hq) (by omega))
                obtain ⟨f2, HO2, hf2⟩ : ∃ f2 : Nat → Nat, Hid (Own T.pr.n C.R (relF C now (rel.take i) r0).1 f2) ∧ 1 ≤ f2 q :=
                  ⟨_, hide (by rw [HPN.out]; exact HOI.out), by rw [if_neg hnin]; exact hvb.2.2⟩
                generalize hAJ : (relF C now (rel.take i) r0).1 = ri at HATI hcli HCN2 HCN3 HSN HCNI HO2
                generalize hAO : (relF C now (rel.take i) r0).2 = oi at HOWI hlni HSN ⊢
                clear hAJ hAO hnin HOI
                have hopl : (ops0 ++ oi).length = ops0.length + oi.length := List.length_append
                try rw [← hopl]
                generalize hall : ops0 ++ oi = all at HOWI hopl ⊢
                have hopb : all.length ≤ 8320 := by omega
                have HALL := hide hall
                have HNB1 : Hid (T.b ∉ [T.pr.b, T.pr.gB, T.pr.gC]) := hide (by have := HATI.out.ne; simp; omega)
                have HNB2 : Hid (o1 ∉ [T.pr.b, T.pr.gB, T.pr.gC]) := hide (fun hm => HOFR.out _ rfl (by simp at hm; simp [TP.wr]; omega))
                have HQ := hide (And.intro t1 e0)
                clear hv hvb hch t1 e0 hopl hall
                go_upto_region 22 with (fail)
                go_region_held3 (fun w' => w'.cell? ⟨T.b, 1, none⟩ = some (.pointer (some ⟨T.pr.b, 0, none⟩)) ∧ w'.cell? ⟨o1, o2 + i, none⟩ = some (.int .i64 (q : Int))) (first | exact keep2q HQ.out (Fr.refl [] _).drew (by simp) (by simp) | exact keep2q (by assumption) (Fr.refl [] _).drew (by simp) (by simp) | exact keep2q (by assumption) hf4 HNB1.out HNB2.out | exact keep2q HQ.out hf4 HNB1.out HNB2.out) (first | (go_at_call 70; refine (rqrelease_ok HCHN.out (by omega) (by first | exact HATI.out.rl.fr0 (Fr.refl [] _).drew | exact HATI.out.rl) HO2.out hf2 HCN3.out hcli hn2).mono ?_; rintro e w5 ⟨v4, rfl, hrl4, hown4, hf4⟩))
                rw [HPN.out] at hrl4 hown4
                have hl4 := rem_len C.n C.R now q (C.ch q) { ri with clk := now }
                generalize remC C.n C.R now q (C.ch q) { ri with clk := now } = a4 at hrl4 hown4 HSN hl4
                obtain ⟨r4, o4⟩ := a4
                simp only at hrl4 hown4 HSN hl4
                have HAT5 := hide (HATI.out.rails ((Fr.refl [T.pr.b, T.pr.gB, T.pr.gC] wr).drew.trans hf4) hrl4)
                obtain ⟨A19, c19, rfl, -, hrow4, -⟩ := own_slice hown4
                have hsz5 := hfr.size
                have hsz6 : wr.heap.size ≤ w5.heap.size := hf4.size
                have hobw : ∀ g, (Value.slice A17 all.length c17).ownBlock = some g → g ∉ [T.pr.b, T.pr.gB, T.pr.gC] := fun g hg hm => by
                  have h1 := (own_block HOWI.out hg).1
                  have h2 := HWRL.out g (by simp at hm; simp [TP.wr]; omega)
                  omega
                have hf45 : Fr [T.pr.b, T.pr.gB, T.pr.gC] wr w5 := (Fr.refl [T.pr.b, T.pr.gB, T.pr.gC] wr).drew.trans hf4
                have HOW4 := hide (own_fr HOWI.out hf45 hobw)
                have HROW4 := hide hrow4
                have hfr4 : Fr T.wr w4 w5 := hfr.trans (hf45.mono (fun y _ hm => by simp at hm; simp [TP.wr]; omega))
                clear hrl4 hown4 hrow4 hobw hf4 hf45 hfr HQ
                go_upto_region 21 with (first
                  | (at_builtin
                     refine wpList_append_row _ rfl (.tmp 176) (.tmp 177) _ rfl w4.heap.size 54 i0 (.agg #[.int .i64 0, .bool false, .int .u64 0, .int .u64 0]) 4 32 Try.underlying39 HRI.out.1 HRI.out.2.1 HRI.out.2.2.1 HRI.out.2.2.2 rfl (by omega) (.slice A17 all.length c17) all.length (ropcs all) rfl
                       HOW4.out A19 o4.length c19 (ropcs o4) rfl (ropcs_len o4) HROW4.out (ropcs_one o4) (by simp only [maxLen]; omega) (by omega) (by omega) ?_
                     intro v5 w6 hown5 hg5 hat5))
                obtain ⟨A5, c5', rfl, -, -, -⟩ := own_slice hown5
                have hf56 : Fr (Value.slice A17 all.length c17).ownBlock.toList w5 w6 := Fr.of_grown hg5
                have hob : ∀ y ∈ (Value.slice A17 all.length c17).ownBlock.toList, w4.heap.size ≤ y := fun y hy => (own_block HOW4.out (by simpa using hy)).1
                have HAT6 := hide (HAT5.out.frGe HLW4.out hf56 hob)
                have hfr5 : Fr T.wr w4 w6 := hfr4.step hf56 (fun y hy => .inr (hob y hy))
                have HOW5 := hide hown5
                clear hown5 hg5 hat5 hf56 hob HROW4 HOW4 HAT5
                go_wp2
                go_roundg (rel.length - (i + 1))
                case measure => rw [HMI.out]; omega
                case rel => exact ⟨i + 1, by omega, by go_num, by rw [HSN.out]; exact HAT6.out, by rw [HSN.out, ← List.append_assoc, HALL.out, ropcs_app, List.length_append]; exact HOW5.out, hfr5, rfl⟩
              · have hje : i = rel.length := by omega
                subst hje
                have hiri : ¬ (rel.length : Int) < (rel.length : Int) := by omega
                rw [List.take_length] at HATI HOWI ⊢
                have HFI := hide (HF04.out.trans hfr)
                generalize hAI : (relF C now rel r0).1 = r1 at HATI HSO
                generalize hAO : (relF C now rel r0).2 = ops1 at HOWI HSO ⊢
                have hopl2 : (ops0 ++ ops1).length = ops0.length + ops1.length := List.length_append
                try rw [← hopl2]
                generalize hall : ops0 ++ ops1 = all at HOWI HSO hopl2 ⊢
                clear hopl2 hAI hAO hall hfr hal hrl hclj hlnj hlni hcli hcl hn1
                go_wp2
                go_ret2
                refine ⟨_, by rw [HM.out]; rfl, ?_, ?_, HFI.out⟩
                · rw [HM.out, HSO.out]
                  exact HATI.out
                · rw [HM.out, HSO.out]
                  exact own_base HOWI.out hsz4
end Go.Proofs.Ytdocdgghphhdpaa

