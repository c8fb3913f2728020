/- The law DeviceTreeAgrees, walked. -/
import Derived.Test.YtdocdgghphhdpaaMgDeviceTree17
import Derived.Test.YtdocdgghphhdpaaMgDeviceTree21
import Derived.Test.YtdocdgghphhdpaaTqW2Mg
import Derived.Test.YtdocdgghphhdpaaHlpEqOMg
namespace Go.Proofs.Ytdocdgghphhdpaa
open Go.RowKit

def TaRel (w4 : World) (Ta Tq : TP) (dsA out : List DV) (C : TC) (n m : Nat) (i : Value) (wr : World) : Prop :=
  ∃ (j : Nat) (s : TSt), j ≤ n ∧ i = .int .i64 (j : Int) ∧ TrAt wr Ta dsA C s ∧ TqAt wr Tq out C s ∧ TInv C s ∧ s.clk ≤ MaxT ∧ Fr (Ta.wr ++ Tq.wr) w4 wr ∧ m = n - j
def TaI (w6 : World) (n : Nat) (m : Nat) (i : Value) (wr : World) : Prop := ∃ z : Int, -1 ≤ z ∧ z ≤ n + 1 ∧ i = .int .i64 z ∧ Fr [] w6 wr ∧ m = (n + 1 - z).toNat
theorem DNewRet.shape {w w' : World} {ds : List DV} {C : TC} {e : Ending} (h : DNewRet w ds C e w') : ∃ p, e = .returned (.tuple #[.pointer p, .int .i64 (dnewM ds C.R C.n)]) ∧ Fr [] w w' := by
  rcases h with ⟨hf, ⟨-, rfl⟩ | ⟨h0, T, ds', rfl, -⟩⟩
  · exact ⟨_, rfl, hf⟩
  · exact ⟨_, by rw [h0], hf⟩
theorem TqNewRet.shape {w w' : World} {A : Option Addr} {ds : List DV} {C : TC} {e : Ending} (h : TqNewRet w A ds C e w') : ∃ p, e = .returned (.tuple #[.pointer p, .int .i64 (dnewM ds C.R C.n)]) ∧ Fr [] w w' := by
  rcases h with ⟨hf, ⟨-, rfl⟩ | ⟨h0, T, rfl, -⟩⟩
  · exact ⟨_, rfl, hf⟩
  · exact ⟨_, by rw [h0], hf⟩
theorem keep5q {wr w1 w2 : World} {a0 a1 a2 a3 a4 : Addr} {v0 v1 v2 v3 v4 : Value} (h : Fr [] wr w1 ∧ w1.cell? a0 = some v0 ∧ w1.cell? a1 = some v1 ∧ w1.cell? a2 = some v2 ∧ w1.cell? a3 = some v3 ∧ w1.cell? a4 = some v4) (k : Fr [] w1 w2) : Fr [] wr w2 ∧ w2.cell? a0 = some v0 ∧ w2.cell? a1 = some v1 ∧ w2.cell? a2 = some v2 ∧ w2.cell? a3 = some v3 ∧ w2.cell? a4 = some v4 := by
  obtain ⟨h, h0, h1, h2, h3, h4⟩ := h
  exact ⟨h.call k, k.cell h0 (by simp), k.cell h1 (by simp), k.cell h2 (by simp), k.cell h3 (by simp), k.cell h4 (by simp)⟩
theorem powI_same {P Q : RP} (h : P.n = Q.n) (r : RSt) (v : Int) (t : Nat) : powI P r v t = powI Q r v t := by
  unfold powI useI
  rw [h]
theorem accF_same {P Q : RP} (h : P.n = Q.n) (C : TC) (s : TSt) (t : Nat) : ∀ (f : Nat) (d : Int), accF C P s t f d = accF C Q s t f d
  | 0, _ => rfl
  | f + 1, d => by
    rw [accF, accF, accF_same h C s t f]
    have : accR C P s t d.toNat = accR C Q s t d.toNat := by
      unfold accR
      simp only [powI_same h]
    rw [this]
theorem acc_same {P Q : RP} (h : P.n = Q.n) (C : TC) (s : TSt) (d : Int) (t : Nat) : accM C P s d t = accM C Q s d t := by
  unfold accM
  rw [accF_same h]
theorem cnt_same {P Q : RP} (h : P.n = Q.n) (r : RSt) (k : Int) : cntI P r k = cntI Q r k := by
  unfold cntI
  rw [h]
/-- The devices and rails as they came in. -/
noncomputable def rawTC (raw : List DV) (R : Nat → RailD) (n : Nat) : TC := mkTC raw n R (fun _ => [])
set_option maxHeartbeats 16000000 in
set_option maxRecDepth 100000 in
theorem treeAgrees_any (A0 : Option Addr) (cp0 : Nat) (raw : List DV) (A1 : Option Addr) (cp1 : Nat) (rls : List RailD) (A2 : Option Addr) (cp2 : Nat) (l : List TCL) (later0 : Int) (w : World) (hr0 : Row w A0 (dvcs raw)) (hw0 : ∀ x ∈ raw, DvWf w x ∧ NilOk x) (hm0 : raw.length ≤ maxLen) (hr1 : Row w A1 (rls.flatMap rlc)) (hz1 : A1 = none → cp1 = 0) (hm1 : rls.length ≤ maxLen) (hr2 : Row w A2 (tclcs l)) (hm2 : l.length ≤ maxLen) (hlt0 : (Lit.int .u64 later0).wf = true) :
    Calls Try.prog 7 #[.slice A0 raw.length cp0, .slice A1 rls.length cp1, .slice A2 l.length cp2, .int .u64 later0] w fun e w' => e = .returned (.bool true) ∧ Fr [] w w' := by
  obtain ⟨later, rfl, -⟩ := nat_of hlt0
  clear hlt0
  have HDV : Hid (DvsAt w A0 raw) := hide ⟨hr0, fun x hx => (hw0 x hx).1.1⟩
  have HW := hide hw0
  have HML := hide hm0
  have HM1 := hide hm1
  have HZ1 : Hid (A1 = none → cp1 = 0 ∧ rls.length = 0) := hide (fun e => ⟨hz1 e, by
    rcases Nat.eq_zero_or_pos rls.length with h | h
    · exact h
    · obtain ⟨ob, oo, e2, -⟩ := hr1 (by rw [flat_length rlc_len rls]; omega)
      rw [e] at e2
      cases e2⟩)
  have HR1 : Hid (Row w A1 (rlcs (fun i => rls.getD i ⟨0, 0, 0⟩) rls.length)) := hide (by rw [rlcs_list rls _ (fun i x h => by simp [List.getD, h])]; exact hr1)
  have HL := hide hr2
  unfold maxLen at hm0 hm1 hm2
  clear hr0 hw0 hr1 hr2 hz1
  go_enter Try.func7, Try.ntmps7
  go_wp2_with fail
  refine (large27_any A0 cp0 raw w HDV.out HML.out).mono ?_
  rintro e w1 ⟨big, rfl, hlg, rfl⟩
  cases big with
  | true =>
    go_wp2_with fail
    refine (awake27_any w).mono ?_
    rintro e w7 ⟨rfl, hf7⟩
    go_wp2
    go_ret
    exact ⟨rfl, hf7⟩
  | false =>
  have HLG : Hid (∀ x ∈ raw, ∀ k, (x.rl k).length ≤ 4096) := hide (fun x hx k => by
    by_cases h : k < 4
    · have := (hlg rfl).2 x hx k h
      omega
    · rw [(HW.out x hx).1.2.2 k (by omega)]
      simp)
  have hr20 : raw.length ≤ 20 := (hlg rfl).1
  clear hlg
  by_cases h20 : 20 < rls.length
  · have b1 : decide ((20 : Int) < (rls.length : Int)) = true := decide_eq_true (by omega)
    have b1n : decide (20 < rls.length) = true := decide_eq_true h20
    clear h20
    go_wp2_with fail
    refine (awake27_any w).mono ?_
    rintro e w7 ⟨rfl, hf7⟩
    go_wp2
    go_ret
    exact ⟨rfl, hf7⟩
  have b1 : decide ((20 : Int) < (rls.length : Int)) = false := decide_eq_false (by omega)
  have b1n : decide (20 < rls.length) = false := decide_eq_false h20
  by_cases h40 : 40 < l.length
  · have b2 : decide ((40 : Int) < (l.length : Int)) = true := decide_eq_true (by omega)
    have b2n : decide (40 < l.length) = true := decide_eq_true h40
    clear h20 h40
    go_wp2_with fail
    refine (awake27_any w).mono ?_
    rintro e w7 ⟨rfl, hf7⟩
    go_wp2
    go_ret
    exact ⟨rfl, hf7⟩
  have b2 : decide ((40 : Int) < (l.length : Int)) = false := decide_eq_false (by omega)
  have b2n : decide (40 < l.length) = false := decide_eq_false h40
  obtain ⟨C0, HC0d, HC0n, HC0t, HC0R⟩ : ∃ C0 : TC, Hid (raw.length = C0.nd) ∧ Hid (C0.n = rls.length) ∧ Hid (∀ i x, raw[i]? = some x → x.d.par = C0.par i ∧ x.rl = C0.rl i) ∧ Hid (∀ wz, Fr [] w wz → Row wz A1 (rlcs C0.R C0.n)) :=
    ⟨rawTC raw (fun i => rls.getD i ⟨0, 0, 0⟩) rls.length, hide rfl, hide rfl, hide (mkTC_tie raw _ _ _), hide (fun wz k => HR1.out.fr0 k)⟩
  have HNIL : Hid (∀ x ∈ raw, ∀ q, q < 4 → ∀ n c, x.d.rf q = .slice none n c → c = 0) := hide (fun x hx => (HW.out x hx).2)
  have HN1 : Hid (C0.n ≤ maxLen) := hide (by rw [HC0n.out]; exact HM1.out)
  have HZ2 : Hid (A1 = none → cp1 = 0 ∧ C0.n = 0) := hide (by rw [HC0n.out]; exact HZ1.out)
  clear HW HZ1 HM1
  go_wp2_with fail
  rw [← HC0n.out]
  clear b1 b1n b2 b2n
  refine (dnew_any A0 cp0 raw A1 cp1 C0 w HDV.out HLG.out HML.out HNIL.out HC0d.out HC0t.out (HC0R.out w (Fr.refl _ _)) HZ2.out HN1.out).mono ?_
  rintro e wa hret
  obtain ⟨pa, rfl, hfa⟩ := hret.shape
  clear hret
  go_wp2_with fail
  refine (tqnew_any A0 cp0 raw A1 cp1 C0 wa (HDV.out.fr0 hfa) HLG.out HML.out HC0d.out HC0t.out (HC0R.out wa hfa) HN1.out).mono ?_
  rintro e wb hret
  obtain ⟨pb, rfl, hfb⟩ := hret.shape
  clear hret
  have hf0 := hfa.call hfb
  generalize dnewM raw C0.R C0.n = ce
  rw [HC0n.out]
  clear hfa hfb HC0d HC0n HC0t HC0R HNIL HN1 HZ2
  go_wp2_with fail
  refine (some25_any A1 cp1 rls.length _ wb (HR1.out.fr0 hf0) (by omega)).mono ?_
  rintro e w1 ⟨v7, m, R, rk, rfl, hown7, hgood, hf1⟩
  obtain ⟨A7, c7, rfl, -, -, -⟩ := own_slice hown7
  have hn8 := hgood.n8
  have HOWN7 := hide hown7
  have HGOOD := hide hgood
  have hf01 := hf0.call hf1
  clear hown7 hgood hf0
  go_wp2_with fail
  refine (some27_any A0 cp0 raw m w1 (HDV.out.fr0 hf01) HML.out (fun x hx k => Nat.le_trans (HLG.out x hx k) (by unfold maxLen; omega)) (by omega)).mono ?_
  rintro e w2 ⟨v8, out, rfl, hown8, hrl, hso, hf2⟩
  obtain ⟨A8, c8, rfl, -, -, -⟩ := own_slice hown8
  obtain ⟨C, rfl, hnd, hnd6, -, hok, hcall⟩ := brdq_new (own_fr HOWN7.out hf2 (fun _ _ => by simp)) HGOOD.out hown8 hrl hso
  have hf02 := hf01.call hf2
  rw [hnd] at hcall ⊢
  have HCALL := hide hcall
  have HOK := hide hok
  clear hcall hnd hown8 hrl hso HOWN7 HGOOD hok hf1 hf2 hf01
  go_wp2_with fail
  refine HCALL.out.mono ?_
  rintro e w3 ⟨Ta, dsA, rfl, hatA, hf3, hgeA, hcq⟩
  have HCQ := hide hcq
  have HATA := hide hatA
  have HGA := hide hgeA
  clear hcq hatA hgeA HCALL
  go_wp2_with fail
  refine HCQ.out.mono ?_
  rintro e w4 ⟨Tq, rfl, hatQ, hf4, hgeQ, hoff⟩
  have HOFF := hide hoff
  have HGQ := hide hgeQ
  have HAT4 := hide (HATA.out.fr0 hf4)
  have HATQ := hide hatQ
  have HLWA := hide HATA.out.low
  have hf04 := (hf02.call hf3).call hf4
  have HNEW : Hid (∀ g ∈ Ta.wr ++ Tq.wr, w.heap.size ≤ g) := hide (fun g hg => by
    have := hf02.size
    have := hf3.size
    rcases List.mem_append.1 hg with h | h
    · have := HGA.out g h
      omega
    · have := HGQ.out g h
      omega)
  clear hoff hgeQ hatQ HATA HCQ HDV HML HR1 HLG hf02
  have be1 : (ce != ce) = false := by simp
  go_upto_region 11 with (fail)
  clear be1
  go_wp2
  go_loopg [19] l.length (fun m i wr => TaRel w4 Ta Tq dsA out C l.length m i wr)
  case atStart => exact ⟨0, tsz, by omega, rfl, HAT4.out, HATQ.out, tsz_inv C, Nat.zero_le _, Fr.refl _ _, rfl⟩
  case round =>
    obtain ⟨j, s, hj, rfl, hat, haq, hin, hck, hfr, hmm⟩ := hrel
    have HMM := hide hmm
    have HATr := hide hat
    have HAQr := hide haq
    have HINr := hide hin
    have HCK := hide hck
    have hfwr : Fr [] w wr := hf04.step hfr (fun y hy => .inr (HNEW.out y hy))
    clear hmm hat haq hin hck HAT4 HATQ
    by_cases hjl : j < l.length
    case neg =>
      have hje : j = l.length := by omega
      subst hje
      have hji : ¬ (l.length : Int) < (l.length : Int) := by omega
      go_wp2_with fail
      refine (awake27_any wr).mono ?_
      rintro e w7 ⟨rfl, hf7⟩
      go_wp2
      go_ret
      exact ⟨rfl, hfwr.call hf7⟩
    obtain ⟨c, hc⟩ : ∃ c, l[j]? = some c := ⟨_, List.getElem?_eq_getElem hjl⟩
    obtain ⟨ob, oo, rfl, c0, c1, c2, c3⟩ := (HL.out.fr0 hfwr).tcl hc
    obtain ⟨-, -, -, t3⟩ := HAQr.out.cells
    have hkl : (j : Int) < (l.length : Int) := by omega
    have hclk : s.clk ≤ 1152921504606846976 := HCK.out
    have HQ := hide (And.intro (Fr.refl [] wr) (And.intro c0 (And.intro c1 (And.intro c2 (And.intro c3 t3)))))
    clear hc
    go_upto_region 14 with (fail)
    go_region_held3 (fun w' => Fr [] wr w' ∧ w'.cell? ⟨ob, oo + j * 4, none⟩ = some (.int .i64 c.dev) ∧ w'.cell? ⟨ob, oo + j * 4 + 1, none⟩ = some (.int .i64 c.st) ∧ w'.cell? ⟨ob, oo + j * 4 + 2, none⟩ = some (.int .u64 (c.wait : Int)) ∧ w'.cell? ⟨ob, oo + j * 4 + 3, none⟩ = some (.bool c.raw) ∧ w'.cell? ⟨Tq.b, 3, none⟩ = some (.int .u64 (s.clk : Int))) (first | exact keep5q HQ.out (Fr.refl _ _).drew | exact keep5q (by assumption) (Fr.refl _ _).drew | exact keep5q (by assumption) hf5 | exact keep5q HQ.out hf5) (first | (go_at_call 19; refine (at27_any c C.nd s.clk _ (by omega) hclk).mono ?_; rintro e w5 ⟨rfl, hf5⟩))
    have HAT5 := hide ((HATr.out.fr0 (Fr.refl [] wr).drew).fr0 hf5)
    have HAQ5 := hide ((HAQr.out.fr0 (Fr.refl [] wr).drew).fr0 hf5)
    have hf45 : Fr (Ta.wr ++ Tq.wr) w4 w5 := (hfr.call (Fr.refl [] wr).drew).call hf5
    generalize tatM c C.nd s.clk = at3
    obtain ⟨d, k, t⟩ := at3
    dsimp only
    clear HATr HAQr HQ c0 c1 c2 c3 t3 hf5 hfr
    go_wp2_with fail
    refine (tset_any HAT5.out HOK.out HINr.out d k t).mono ?_
    rintro e w6 ⟨v6, rfl, hat6, hown6, hf6⟩
    obtain ⟨A6, c6, rfl, -, hrow6, hlow6⟩ := own_slice hown6
    have HAQ6 := hide (HAQ5.out.frOff HOFF.out hf6)
    have HAT6 := hide hat6
    have HROW6 := hide hrow6
    have HLOW6 := hide hlow6
    have HLQ5 := hide HAQ5.out.low
    clear hown6 hat6 hrow6 hlow6 HAQ5
    go_wp2_with fail
    refine (tqset_any HAQ6.out HOK.out HINr.out d k t).mono ?_
    rintro e w7 ⟨v7, rfl, haq7, hown7, hf7⟩
    obtain ⟨A9, c9, rfl, -, hrow7, -⟩ := own_slice hown7
    have HAT7 := hide (HAT6.out.frGe (HLWA.out) hf7 HGQ.out)
    have HAQ7 := hide haq7
    have HROW7 := hide hrow7
    have HROW8 := hide (HROW6.out.fr hf7 (fun ad e hm => by
      have h1 := (HLOW6.out ad e).1
      obtain ⟨l1, l2, ⟨l3, l4, l5, -⟩, -, -⟩ := HLQ5.out
      simp only [TP.wr, List.mem_cons, List.not_mem_nil, or_false] at hm
      omega))
    have HLEN := hide (setM_len HOK.out t d k s)
    have HIV := hide (setM_inv HOK.out HINr.out (now := t) d k)
    have HCK7 := hide (setM_clk C t d k s HCK.out)
    have hf47 : Fr (Ta.wr ++ Tq.wr) w4 w7 := (hf45.trans (hf6.mono (fun _ _ h => List.mem_append.2 (.inl h)))).trans (hf7.mono (fun _ _ h => List.mem_append.2 (.inr h)))
    generalize setM C t d k s = r at HAT7 HAQ7 HROW7 HROW8 HLEN HIV HCK7 ⊢
    obtain ⟨s', ops, cd⟩ := r
    dsimp only at HAT7 HAQ7 HROW7 HROW8 HLEN HIV HCK7 ⊢
    have be : (cd != cd) = false := by simp
    clear hown7 haq7 hrow7 hf6 hf7 hf45 HAT6 HAQ6 HROW6 HLOW6 HLQ5 HINr HCK HAT5
    go_wp2_with fail
    refine (equalRops_any A6 A9 c6 c9 ops ops w7 HROW8.out HROW7.out HLEN.out).mono ?_
    rintro e w8 ⟨rfl, hf8⟩
    have HAT8 := hide (HAT7.out.fr0 hf8)
    have HAQ8 := hide (HAQ7.out.fr0 hf8)
    have hf48 := hf47.call hf8
    rw [show decide (ops = ops) = true from by simp]
    obtain ⟨-, t1, -, t3⟩ := HAQ8.out.cells
    have hclk : s'.clk ≤ 1152921504606846976 := HCK7.out
    have hx1 : (later : Int).tmod 40 = ((later % 40 : Nat) : Int) := rfl
    have hx2 : (later : Int) % 40 = ((later % 40 : Nat) : Int) := rfl
    have hx3 : later % 40 < 40 := by omega
    generalize later % 40 = xa at hx1 hx2 hx3
    have hwr1 : IntKind.u64.wrap ((s'.clk : Int) + (xa : Int)) = ((s'.clk + xa : Nat) : Int) := by rw [IntKind.wrap_u64]; omega
    have HPNE : Hid (Ta.pr.n = Tq.pr.n) := hide (by rw [HAT8.out.pn, HAQ8.out.pn])
    generalize s'.clk + xa = tt at hwr1
    clear hf8 hf47 HAT7 HAQ7 HROW7 HROW8 HLEN
    go_upto_region 20 with (fail)
    clear hwr1 hx1 hx2 hx3 t1 t3 be hclk
    go_wp2
    go_loopg [28] (C.nd + 2) (fun m i wz => TaI w8 C.nd m i wz)
    case atStart => exact ⟨-1, by omega, by omega, rfl, Fr.refl _ _, by omega⟩
    case round =>
      obtain ⟨z, hz1, hz2, rfl, hfz, hmm2⟩ := hrel
      have HM2 := hide hmm2
      have HATz := hide (HAT8.out.fr0 hfz)
      have HAQz := hide (HAQ8.out.fr0 hfz)
      clear hmm2
      by_cases hzn : z ≤ (C.nd : Int)
      · go_wp2_with fail
        refine (tstate_any HATz.out z).mono ?_
        rintro e w9 ⟨rfl, rfl⟩
        go_wp2_with fail
        refine (tqstate_any HAQz.out z).mono ?_
        rintro e w9 ⟨rfl, rfl⟩
        generalize stI C s' z = sv
        have be : (sv != sv) = false := by simp
        go_wp2_with fail
        refine (tacc_any HATz.out HOK.out z tt).mono ?_
        rintro e w9 ⟨rfl, rfl⟩
        go_wp2_with fail
        refine (tqacc_any HAQz.out HOK.out z tt).mono ?_
        rintro e w9 ⟨rfl, hf9⟩
        rw [acc_same (P := Ta.pr) (Q := Tq.pr) HPNE.out]
        generalize accM C Tq.pr s' z tt = av
        have be2 : (av != av) = false := by simp
        go_wp2
        go_roundg ((C.nd : Int) + 1 - (z + 1)).toNat
        case measure => rw [HM2.out]; omega
        case rel => exact ⟨z + 1, by omega, by omega, by go_num, hfz.call hf9, rfl⟩
      · go_wp2
        go_loopg [29] (C.n + 2) (fun m i wy => TaI wr C.n m i wy)
        case atStart => exact ⟨-1, by omega, by omega, rfl, Fr.refl _ _, by omega⟩
        case round =>
          obtain ⟨y, hy1, hy2, rfl, hfy, hmm3⟩ := hrel
          have HM3 := hide hmm3
          have HATy := hide (HATz.out.fr0 hfy)
          have HAQy := hide (HAQz.out.fr0 hfy)
          clear hmm3
          by_cases hyn : y ≤ (C.n : Int)
          · obtain ⟨-, t1, -, -⟩ := HAQy.out.cells
            have HC1 := hide (fun (n : Nat) => tcount_any (w := wr.drewN n) (HATy.out.fr0 ((Fr.refl _ _).drewN n)) y)
            have HC2 := hide (fun (n : Nat) => rqcount_any (w := wr.drewN n) ((HAQy.out.fr0 ((Fr.refl _ _).drewN n)).rl) y)
            rw [cnt_same (P := Ta.pr) (Q := Tq.pr) HPNE.out] at HC1
            generalize cntI Tq.pr s'.r y = cv at HC1 HC2
            have be3 : ((cv : Int) != (cv : Int)) = false := by simp
            go_wp2
            go_quiet ((first | (go_at_call 22; exact quiet_id27 (HC1.out _)) | (go_at_call 30; exact quiet_id27 (HC2.out _))))
            go_wp2
            go_roundg ((C.n : Int) + 1 - (y + 1)).toNat
            case measure => rw [HM3.out]; omega
            case rel => exact ⟨y + 1, by omega, by omega, by go_num, hfy.drewN _, rfl⟩
          · go_wp2
            go_roundg (l.length - (j + 1))
            case measure => rw [HMM.out]; omega
            case rel => exact ⟨j + 1, s', by omega, by go_num, HATy.out, HAQy.out, HIV.out, HCK7.out, (hf48.call hfz).call hfy, rfl⟩
end Go.Proofs.Ytdocdgghphhdpaa

