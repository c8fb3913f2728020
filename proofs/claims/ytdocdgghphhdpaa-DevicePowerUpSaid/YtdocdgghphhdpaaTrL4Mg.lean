/- The law DevicePowerUp, walked. -/
import Derived.Test.YtdocdgghphhdpaaTrL2Mg
import Derived.Test.YtdocdgghphhdpaaTrP3Mg
import Derived.Test.YtdocdgghphhdpaaMgDevicePower7
namespace Go.Proofs.Ytdocdgghphhdpaa
open Go.RowKit

def PuR1 (w3 : World) (L : List Nat) (m : Nat) (v13 v14 : Value) (wr : World) : Prop :=
  ∃ (i : Nat) (d : Int), i ≤ L.length ∧ v14 = .int .i64 d ∧ (i < L.length → ∃ p, L[i]? = some p ∧ d = (p : Int)) ∧ (i = L.length → d < 0) ∧ wr.ownsRow w3.heap.size 3 1 v13 i ((L.take i).map nv) ∧ Fr [] w3 wr ∧ m = L.length - i
def PuR2 (w4 : World) (C : TC) (T : TP) (ds : List DV) (N : Nat) (L : List Nat) (m : Nat) (v16 v17 : Value) (wr : World) : Prop :=
  ∃ (i rdy : Nat) (s : TSt), i ≤ L.length ∧ v16 = .int .u64 (rdy : Int) ∧ v17 = .int .i64 ((i : Int) - 1) ∧ TrAt wr T ds C s ∧ PuUp C N rdy L i s ∧ Fr T.wr w4 wr ∧ m = i
def PuR3 (w6 : World) (rdy : Nat) (ops : List ROp) (m : Nat) (v16 v20 : Value) (wr : World) : Prop :=
  ∃ q : Nat, q ≤ ops.length ∧ v16 = .int .u64 (foldR rdy (ops.take q) : Int) ∧ v20 = .int .i64 (q : Int) ∧ Fr [] w6 wr ∧ m = ops.length - q
def PuR4 (w4 : World) (C : TC) (T : TP) (ds : List DV) (rdy : Nat) (L : List Nat) (m : Nat) (v21 : Value) (wr : World) : Prop :=
  ∃ (i : Nat) (s : TSt), i ≤ L.length ∧ v21 = .int .i64 (i : Int) ∧ TrAt wr T ds C s ∧ PuDn C rdy L i s ∧ Fr T.wr w4 wr ∧ m = L.length - i
theorem ropc_len (x : ROp) : (ropc x).length = 4 := rfl
theorem Row.rop {w : World} {A : Option Addr} {l : List ROp} (hr : Row w A (ropcs l)) {i : Nat} {x : ROp} (h : l[i]? = some x) : ∃ ob oo, A = some ⟨ob, oo, none⟩ ∧ w.cell? ⟨ob, oo + i * 4 + 1, none⟩ = some (.bool x.on) ∧ w.cell? ⟨ob, oo + i * 4 + 3, none⟩ = some (.int .u64 (x.dn : Int)) := by
  obtain ⟨ob, oo, e, hc⟩ := Row.el (f := ropc) ropc_len (by omega) hr h
  exact ⟨ob, oo, e, hc 1 _ rfl, hc 3 _ rfl⟩
theorem Row.natv {w : World} {A : Option Addr} {L : List Nat} (hr : Row w A (L.map nv)) {i p : Nat} (h : L[i]? = some p) : ∃ ob oo, A = some ⟨ob, oo, none⟩ ∧ w.cell? ⟨ob, oo + i, none⟩ = some (.int .i64 (p : Int)) := by
  obtain ⟨ob, oo, e, hc⟩ := hr (by have := (List.getElem?_eq_some_iff.1 h).1; rw [List.length_map]; omega)
  exact ⟨ob, oo, e, hc i _ (by simp [h])⟩
set_option maxHeartbeats 16000000 in
set_option maxRecDepth 100000 in
theorem powerUp_any (A0 : Option Addr) (cp0 : Nat) (raw : List DV) (A1 : Option Addr) (cp1 : Nat) (rls : List RailD) (which ta0 : Int) (w : World) (hr0 : Row w A0 (dvcs raw)) (hw0 : ∀ x ∈ raw, DvWf w x) (hm0 : raw.length ≤ maxLen) (hr1 : Row w A1 (rls.flatMap rlc)) (hm1 : rls.length ≤ maxLen) (hta : (Lit.int .u64 ta0).wf = true) :
    Calls Try.prog 6 #[.slice A0 raw.length cp0, .slice A1 rls.length cp1, .int .i64 which, .int .u64 ta0] w fun e w' => e = .returned (.bool true) ∧ Fr [] w w' := by
  obtain ⟨ta, rfl, -⟩ := nat_of hta
  clear hta
  have HDV : Hid (DvsAt w A0 raw) := hide ⟨hr0, fun x hx => (hw0 x hx).1⟩
  have HW := hide hw0
  have HML := hide hm0
  have HR1 : Hid (Row w A1 (rlcs (fun i => rls.getD i ⟨0, 0, 0⟩) rls.length)) := hide (by rw [rlcs_list rls _ (fun i x h => by simp [List.getD, h])]; exact hr1)
  unfold maxLen at hm0 hm1
  clear hr0 hw0 hr1
  go_enter Try.func6, Try.ntmps6
  go_wp2_with fail
  refine (large27_any A0 cp0 raw w HDV.out HML.out).mono ?_
  rintro e w1 ⟨big, rfl, hlg, rfl⟩
  cases big with
  | true =>
    go_wp2_with fail
    refine (awake27_any w).mono ?_
    rintro e w7 ⟨rfl, hf7⟩
    go_wp2
    go_ret
    exact ⟨rfl, hf7⟩
  | false =>
  have HLG : Hid (∀ x ∈ raw, ∀ k, (x.rl k).length ≤ 4096) := hide (fun x hx k => by
    by_cases h : k < 4
    · have := (hlg rfl).2 x hx k h
      omega
    · rw [(HW.out x hx).2.2 k (by omega)]
      simp)
  have hr20 : raw.length ≤ 20 := (hlg rfl).1
  clear hlg
  by_cases h00 : raw.length = 0
  · have b0 : ((raw.length : Int) == 0) = true := by simp [h00]
    clear h00
    go_wp2_with fail
    refine (awake27_any w).mono ?_
    rintro e w7 ⟨rfl, hf7⟩
    go_wp2
    go_ret
    exact ⟨rfl, hf7⟩
  have b0 : ((raw.length : Int) == 0) = false := by simp [h00]
  by_cases h20 : 20 < rls.length
  · have b1 : decide ((20 : Int) < (rls.length : Int)) = true := decide_eq_true (by omega)
    have b1n : decide (20 < rls.length) = true := decide_eq_true h20
    clear h20
    go_wp2_with fail
    refine (awake27_any w).mono ?_
    rintro e w7 ⟨rfl, hf7⟩
    go_wp2
    go_ret
    exact ⟨rfl, hf7⟩
  have b1 : decide ((20 : Int) < (rls.length : Int)) = false := decide_eq_false (by omega)
  have b1n : decide (20 < rls.length) = false := decide_eq_false h20
  go_wp2_with fail
  refine (some25_any A1 cp1 rls.length _ w HR1.out (by omega)).mono ?_
  rintro e w1 ⟨v7, m, R, rk, rfl, hown7, hgood, hf1⟩
  obtain ⟨A7, c7, rfl, -, -, -⟩ := own_slice hown7
  have hn8 := hgood.n8
  have HOWN7 := hide hown7
  have HGOOD := hide hgood
  clear hown7 hgood b1 b1n b0
  go_wp2_with fail
  refine (some27_any A0 cp0 raw m w1 (HDV.out.fr0 hf1) HML.out (fun x hx k => Nat.le_trans (HLG.out x hx k) (by unfold maxLen; omega)) (by omega)).mono ?_
  rintro e w2 ⟨v8, out, rfl, hown8, hrl, hso, hf2⟩
  obtain ⟨A8, c8, rfl, -, -, -⟩ := own_slice hown8
  obtain ⟨C, rfl, hnd, hcall⟩ := brd_new HOWN7.out HGOOD.out hf1 hown8 hrl hso hf2

  have hpos : 0 < out.length := by rw [hso.1]; omega
  rw [hnd] at hcall hpos ⊢
  have HCALL := hide hcall
  clear hcall hown8 hrl hso HOWN7 HGOOD hnd
  go_wp2_with fail
  refine HCALL.out.mono ?_
  rintro e w3 ⟨T, ds', rfl, hb⟩
  have HB := hide hb
  have hnd6 := hb.nd6
  have hf03 := hb.fr
  clear hb HCALL hf1 hf2 HDV HW HML HR1 HLG
  have HOK := hide HB.out.ok
  obtain ⟨i1, hj0, hy0, hy1, hy2⟩ := info_parts int_info1
  have HII := hide (And.intro hj0 (And.intro hy0 (And.intro hy1 hy2)))
  clear hj0 hy0 hy1 hy2
  go_wp2_with fail
  refine (mod_int which (C.nd : Int) w3 (by omega) (by omega)).mono ?_
  rintro e w' ⟨rfl, rfl⟩
  rw [Int.toNat_natCast]
  have hk0 := umod_lt which hpos
  generalize umod which C.nd = k0 at hk0 ⊢
  obtain ⟨L, hL⟩ := pth_ex HOK.out k0 k0 (Nat.le_refl _) hk0
  have HLP := hide hL
  have hL7 := hL.len HOK.out
  have h0 := hL.head
  have hLp : 0 < L.length := (List.getElem?_eq_some_iff.1 h0).1
  have H0 := hide h0
  clear hL h0
  go_wp2
  go_loopg [13, 14] L.length (fun m v13 v14 wr => PuR1 w3 L m v13 v14 wr)
  case atStart => exact ⟨0, (k0 : Int), by omega, rfl, fun _ => ⟨k0, H0.out, rfl⟩, fun h => by omega, own_nil _ _ _ _, Fr.refl _ _, rfl⟩
  case round =>
    obtain ⟨i, d, hi, rfl, hlt, hge, hown, hfr, hmm⟩ := hrel
    obtain ⟨A13, c13, rfl, -, -, -⟩ := own_slice hown
    have HMM := hide hmm
    have HLT := hide hlt
    have HGE := hide hge
    have HOWN := hide hown
    clear hmm hlt hge hown
    by_cases hil : i < L.length
    · obtain ⟨p, hp, rfl⟩ := HLT.out hil
      have hpn := (HLP.out.le HOK.out p (List.mem_of_getElem? hp)).2
      have hpi : (p : Int) < (C.nd : Int) := by omega
      have HP := hide hp
      have g0 : decide ((0 : Int) ≤ (p : Int)) = true := decide_eq_true (by omega)
      have hsz := hfr.size
      have HSTP := hide (HLP.out.step HOK.out i p hp)
      clear hp
      go_upto_region 11 with (first
        | (at_builtin
           refine wpList_append_row _ rfl (.tmp 67) (.tmp 69) _ rfl w3.heap.size 3 i1 (.int .i64 0) 1 8 Try.underlying34 HII.out.1 HII.out.2.1 HII.out.2.2.1 HII.out.2.2.2 rfl (by omega) (.slice A13 i c13) i ((L.take i).map nv) rfl
             (own_fr HOWN.out ((Fr.refl [] _).alloc _) (fun _ _ => by simp)) (some ⟨wr.heap.size, 0, none⟩) 1 1 [.int .i64 (p : Int)] rfl rfl (row_one wr _ _) (by intro u hu; simp at hu; subst hu; rfl) (by simp only [maxLen]; omega) (by omega) (by simp; omega) ?_
           intro v5 w5 hown5 hg5 hat5))
      obtain ⟨A5, c5, rfl, -, -, -⟩ := own_slice hown5
      have hf5 : Fr [] w3 w5 := (hfr.alloc _).grown hg5 (fun y hy => .inr (own_block HOWN.out hy).1)
      obtain ⟨ob2, oo2, rfl, p0⟩ := (HB.out.dv w5 (hf5.mono (fun _ _ h => by cases h))).1.par HB.out.nd HB.out.tie hpn
      have HOW5 := hide (show w5.ownsRow w3.heap.size 3 1 (.slice A5 (i + 1) c5) (i + 1) ((L.take (i + 1)).map nv) from by
        rw [take_succ_some HP.out, List.map_append]
        exact hown5)
      clear hown5 hg5 hat5
      go_wp2
      go_roundg (L.length - (i + 1))
      case measure => rw [HMM.out]; omega
      case rel =>
        refine ⟨i + 1, C.par p, by omega, rfl, fun h => ?_, fun h => ?_, HOW5.out, hf5, rfl⟩
        · rcases HSTP.out with ⟨_, q, h1, h2, _⟩ | ⟨h1, _⟩
          · exact ⟨q, h1, h2⟩
          · omega
        · rcases HSTP.out with ⟨h1, _⟩ | ⟨_, h2⟩
          · omega
          · exact h2
    · have hie : i = L.length := by omega
      subst hie
      have hd0 := HGE.out rfl
      have g0 : decide ((0 : Int) ≤ d) = false := decide_eq_false (by omega)
      obtain ⟨A14, c14, e14, -, hrow, hbl⟩ := own_slice HOWN.out
      injection e14 with e14 _ e14c
      subst e14 e14c
      rw [List.take_length] at hrow
      have HROW := hide hrow
      have HBL := hide hbl
      have HAT4 := hide (HB.out.at_.fr0 hfr)
      have hf04 := hf03.call hfr
      have hx1 : (ta : Int).tmod 1000 = ((ta % 1000 : Nat) : Int) := rfl
      have hx2 : (ta : Int) % 1000 = ((ta % 1000 : Nat) : Int) := rfl
      have hN : ta % 1000 < 1000 := by omega
      generalize ta % 1000 = N at hx1 hx2 hN
      have hNM : N ≤ MaxT := by unfold MaxT; omega
      have HNM := hide hNM
      have HLIM : Hid (∀ k, k < C.n → (C.R k).up < 20) := hide (fun k hk => (HB.out.lim k hk).1)
      have HF34 := hide hfr
      have hw1 : IntKind.i64.wrap ((L.length : Int) - 1) = (L.length : Int) - 1 := by simp [IntKind.wrap, IntKind.signed, IntKind.bits]; omega
      obtain ⟨w4, hw4⟩ : ∃ w4, w4 = wr := ⟨_, rfl⟩
      subst hw4
      have HPA : Hid (∀ w', Fr T.wr w4 w' → Row w' A13 (L.map nv)) := hide (fun w' k => row_out HROW.out k (fun ad e hm => by
        have := (HBL.out ad e).1
        have := (HB.out.new _ hm).2
        omega))
      clear hd0 hrow hbl hNM hfr HOWN HLT HGE
      go_wp2
      go_loopg [16, 17] L.length (fun m v16 v17 wr => PuR2 w4 C T ds' N L m v16 v17 wr)
      case atStart => exact ⟨L.length, N, tsz, Nat.le_refl _, rfl, rfl, HAT4.out, pu_start C N L, Fr.refl _ _, rfl⟩
      case round =>
        obtain ⟨i, rdy, s, hi, rfl, rfl, hat, hpu, hfr, hmm⟩ := hrel
        have HM2 := hide hmm
        have HATr := hide hat
        have HPU := hide hpu
        clear hmm hat hpu HAT4 g0
        cases i with
        | succ i =>
          rw [show ((((i + 1 : Nat) : Int)) - 1) = (i : Int) by omega]
          obtain ⟨p, hp⟩ : ∃ p, L[i]? = some p := ⟨_, List.getElem?_eq_getElem (by omega)⟩
          obtain ⟨o1, o2, rfl, e0⟩ := (HPA.out _ hfr).natv hp
          have hps := pu_step HOK.out HLIM.out HNM.out HLP.out hp HPU.out
          rw [show (((0 : Nat) : Int)) = (0 : Int) from rfl] at hps
          have HPS := hide hps
          have g0 : decide ((0 : Int) ≤ (i : Int)) = true := decide_eq_true (by omega)
          have hii : (i : Int) < (L.length : Int) := by omega
          clear hps hp
          go_wp2_with fail
          refine (tset_any HATr.out HOK.out HPU.out.inv (p : Int) 0 N).mono ?_
          rintro e w6 ⟨v6, rfl, hat6, hown6, hf6⟩
          obtain ⟨A6, c6, rfl, -, hrow6, -⟩ := own_slice hown6
          obtain ⟨q1, q2, q3, q4⟩ := HPS.out
          generalize setM C N (p : Int) 0 s = r at hat6 hrow6 q1 q2 q3 q4 ⊢
          rw [q1]
          generalize r.1 = s1 at hat6 q4
          generalize r.2.1 = ops at hrow6 q2 q3 q4 ⊢
          have HAT6 := hide hat6
          have HROW6 := hide hrow6
          have HON := hide q2
          have HPU6 := hide q4
          have hf46 := hfr.trans hf6
          clear hat6 hrow6 hown6 q1 q2 q4 HPS e0
          go_wp2
          go_loopg [16, 20] ops.length (fun m v16 v20 wr => PuR3 w6 rdy ops m v16 v20 wr)
          case atStart => exact ⟨0, by omega, rfl, rfl, Fr.refl _ _, rfl⟩
          case round =>
            obtain ⟨q, hq, rfl, rfl, hfq, hmm⟩ := hrel
            have HM3 := hide hmm
            clear hmm
            by_cases hqn : q < ops.length
            · obtain ⟨o, ho⟩ : ∃ o, ops[q]? = some o := ⟨_, List.getElem?_eq_getElem hqn⟩
              obtain ⟨ob3, oo3, rfl, d1, d3⟩ := (HROW6.out.fr0 hfq).rop ho
              rw [HON.out o (List.mem_of_getElem? ho)] at d1
              have hqi : (q : Int) < (ops.length : Int) := by omega
              have HFO := hide (show foldR rdy (ops.take (q + 1)) = max (foldR rdy (ops.take q)) o.dn from by rw [take_succ_some ho, foldR_app]; rfl)
              clear ho
              generalize foldR rdy (ops.take q) = fq at HFO ⊢
              generalize o.dn = dn at HFO d3
              by_cases hle : fq ≤ dn
              · have hle1 : (fq : Int) ≤ (dn : Int) := by omega
                go_wp2
                all_goals
                  go_roundg (ops.length - (q + 1))
                  case measure => rw [HM3.out]; omega
                  case rel => exact ⟨q + 1, by omega, by rw [HFO.out]; congr 1; omega, by go_num, hfq, rfl⟩
              · have hle1 : (dn : Int) ≤ (fq : Int) := by omega
                go_wp2
                all_goals
                  go_roundg (ops.length - (q + 1))
                  case measure => rw [HM3.out]; omega
                  case rel => exact ⟨q + 1, by omega, by rw [HFO.out]; congr 1; omega, by go_num, hfq, rfl⟩
            · have hqe : q = ops.length := by omega
              subst hqe
              have hqi : ¬ (ops.length : Int) < (ops.length : Int) := by omega
              have HATq := hide (HAT6.out.fr0 hfq)
              have hfin := hf46.call hfq
              have hw2 : IntKind.i64.wrap ((i : Int) - 1) = (i : Int) - 1 := by simp [IntKind.wrap, IntKind.signed, IntKind.bits]; omega
              rw [List.take_length]
              go_wp2
              go_roundg i
              case measure => rw [HM2.out]; omega
              case rel => exact ⟨i, _, s1, by omega, rfl, by go_num, HATq.out, HPU6.out, hfin, rfl⟩
        | zero =>
          rw [show (((0 : Nat) : Int) - 1) = -1 from rfl]
          obtain ⟨o1, o2, rfl, e0⟩ := (HPA.out _ hfr).natv H0.out
          have e0' : wr.cell? ⟨o1, o2, none⟩ = some (.int .i64 (k0 : Int)) := e0
          have hrb := pu_bd HOK.out HLP.out HPU.out
          have hNr := HPU.out.up.le
          have HA1 := hide (pu_acc HOK.out HLP.out HPU.out HATr.out.pn)
          have HA2 : Hid (N < rdy → accM C T.pr s (k0 : Int) (rdy - 1) = false) := hide (fun h => pu_not HOK.out HLP.out HPU.out h)
          have HPD := hide (pd_start HPU.out)
          have hLi : (0 : Int) < (L.length : Int) := by omega
          have hrM : rdy ≤ MaxT := by unfold MaxT; omega
          have HRM := hide hrM
          clear hrM e0 HPU
          go_wp2_with fail
          refine (tacc_any HATr.out HOK.out (k0 : Int) rdy).mono ?_
          rintro e w9 ⟨rfl, rfl⟩
          rw [HA1.out]
          by_cases hlt : N < rdy
          · have g1 : decide ((N : Int) < (rdy : Int)) = true := decide_eq_true (by omega)
            have g1n : decide (N < rdy) = true := decide_eq_true hlt
            obtain ⟨r1, hr1⟩ : ∃ r1, r1 = rdy - 1 := ⟨_, rfl⟩
            have hw3 : IntKind.u64.wrap ((rdy : Int) - 1) = (r1 : Int) := by rw [IntKind.wrap_u64]; omega
            have HA3 := HA2.out hlt
            rw [← hr1] at HA3
            have HA4 := hide HA3
            clear HA3 hr1 hlt
            go_wp2_with fail
            refine (tacc_any HATr.out HOK.out (k0 : Int) r1).mono ?_
            rintro e w9 ⟨rfl, rfl⟩
            rw [HA4.out]
            go_wp2
            clear g1 g1n e0'
            go_loopg [21] L.length (fun m v21 wr => PuR4 w4 C T ds' rdy L m v21 wr)
            case atStart => exact ⟨0, s, by omega, rfl, HATr.out, HPD.out, hfr, rfl⟩
            case round =>
              obtain ⟨i, s2, hi, rfl, hat, hpd, hfr4, hmm⟩ := hrel
              have HM4 := hide hmm
              have HAT4 := hide hat
              have HPD4 := hide hpd
              clear hmm hat hpd HATr HPD
              by_cases hil : i < L.length
              · obtain ⟨p, hp⟩ : ∃ p, L[i]? = some p := ⟨_, List.getElem?_eq_getElem hil⟩
                obtain ⟨o3, o4, eo, e5⟩ := (HPA.out _ hfr4).natv hp
                injection eo with eo
                injection eo with eo1 eo2
                subst eo1 eo2
                have hpds := pd_step HOK.out HRM.out HLP.out hp HPD4.out
                rw [show (((4 : Nat) : Int)) = (4 : Int) from rfl] at hpds
                have HPS := hide hpds
                have hii : (i : Int) < (L.length : Int) := by omega
                clear hpds hp
                go_wp2_with fail
                refine (tset_any HAT4.out HOK.out HPD4.out.inv (p : Int) 4 rdy).mono ?_
                rintro e w6 ⟨v6, rfl, hat6, hown6, hf6⟩
                obtain ⟨A6, c6, rfl, -, -, -⟩ := own_slice hown6
                obtain ⟨q1, q2⟩ := HPS.out
                generalize setM C rdy (p : Int) 4 s2 = r at hat6 q1 q2 ⊢
                rw [q1]
                generalize r.1 = s3 at hat6 q2
                have HAT6 := hide hat6
                have HPD6 := hide q2
                have hf46 := hfr4.trans hf6
                clear hat6 hown6 q1 q2 HPS e5
                go_wp2
                go_roundg (L.length - (i + 1))
                case measure => rw [HM4.out]; omega
                case rel => exact ⟨i + 1, s3, by omega, by go_num, HAT6.out, HPD6.out, hf46, rfl⟩
              · have hie : i = L.length := by omega
                subst hie
                have hii : ¬ (L.length : Int) < (L.length : Int) := by omega
                have HEND : Hid (∀ j, j < C.n → s2.r.cnt j = 0) := hide (fun j hj => by
                  obtain ⟨rk, hr, hk⟩ := HB.out.rank
                  exact pd_end hr hk HPD4.out hj)
                obtain ⟨w5, hw5⟩ : ∃ w5, w5 = wr := ⟨_, rfl⟩
                subst hw5
                have hf05 : Fr [] w w5 := hf04.step hfr4 (fun y hy => .inr (HB.out.new y hy).1)
                go_wp2
                go_loopg [24] C.n (fun m i wr => HiR3 w5 C.n m i wr)
                case atStart => exact ⟨0, by omega, rfl, Fr.refl _ _, rfl⟩
                case round =>
                  obtain ⟨j, hj, rfl, hfj, hmm⟩ := hrel
                  have HM5 := hide hmm
                  clear hmm
                  by_cases hjn : j < C.n
                  · have hji : (j : Int) < (C.n : Int) := by omega
                    have hct : cntI T.pr s2.r (j : Int) = 0 := by rw [cntI, HAT4.out.pn, if_pos ⟨by omega, hji⟩, Int.toNat_natCast, HEND.out j hjn]
                    have HCT := hide hct
                    clear hct
                    go_wp2_with fail
                    refine (tcount_any (HAT4.out.fr0 hfj) (j : Int)).mono ?_
                    rintro e w9 ⟨rfl, rfl⟩
                    rw [HCT.out]
                    go_wp2
                    go_roundg (C.n - (j + 1))
                    case measure => rw [HM5.out]; omega
                    case rel => exact ⟨j + 1, by omega, by go_num, hfj, rfl⟩
                  · have hji : ¬ (j : Int) < (C.n : Int) := by omega
                    go_wp2_with fail
                    refine (awake27_any wr).mono ?_
                    rintro e w7 ⟨rfl, hf7⟩
                    go_wp2
                    go_ret
                    exact ⟨rfl, (hf05.call hfj).call hf7⟩
          · have g1 : decide ((N : Int) < (rdy : Int)) = false := decide_eq_false (by omega)
            have g1n : decide (N < rdy) = false := decide_eq_false hlt
            clear hlt
            go_wp2
            clear g1 g1n e0'
            go_loopg [21] L.length (fun m v21 wr => PuR4 w4 C T ds' rdy L m v21 wr)
            case atStart => exact ⟨0, s, by omega, rfl, HATr.out, HPD.out, hfr, rfl⟩
            case round =>
              obtain ⟨i, s2, hi, rfl, hat, hpd, hfr4, hmm⟩ := hrel
              have HM4 := hide hmm
              have HAT4 := hide hat
              have HPD4 := hide hpd
              clear hmm hat hpd HATr HPD
              by_cases hil : i < L.length
              · obtain ⟨p, hp⟩ : ∃ p, L[i]? = some p := ⟨_, List.getElem?_eq_getElem hil⟩
                obtain ⟨o3, o4, eo, e5⟩ := (HPA.out _ hfr4).natv hp
                injection eo with eo
                injection eo with eo1 eo2
                subst eo1 eo2
                have hpds := pd_step HOK.out HRM.out HLP.out hp HPD4.out
                rw [show (((4 : Nat) : Int)) = (4 : Int) from rfl] at hpds
                have HPS := hide hpds
                have hii : (i : Int) < (L.length : Int) := by omega
                clear hpds hp
                go_wp2_with fail
                refine (tset_any HAT4.out HOK.out HPD4.out.inv (p : Int) 4 rdy).mono ?_
                rintro e w6 ⟨v6, rfl, hat6, hown6, hf6⟩
                obtain ⟨A6, c6, rfl, -, -, -⟩ := own_slice hown6
                obtain ⟨q1, q2⟩ := HPS.out
                generalize setM C rdy (p : Int) 4 s2 = r at hat6 q1 q2 ⊢
                rw [q1]
                generalize r.1 = s3 at hat6 q2
                have HAT6 := hide hat6
                have HPD6 := hide q2
                have hf46 := hfr4.trans hf6
                clear hat6 hown6 q1 q2 HPS e5
                go_wp2
                go_roundg (L.length - (i + 1))
                case measure => rw [HM4.out]; omega
                case rel => exact ⟨i + 1, s3, by omega, by go_num, HAT6.out, HPD6.out, hf46, rfl⟩
              · have hie : i = L.length := by omega
                subst hie
                have hii : ¬ (L.length : Int) < (L.length : Int) := by omega
                have HEND : Hid (∀ j, j < C.n → s2.r.cnt j = 0) := hide (fun j hj => by
                  obtain ⟨rk, hr, hk⟩ := HB.out.rank
                  exact pd_end hr hk HPD4.out hj)
                obtain ⟨w5, hw5⟩ : ∃ w5, w5 = wr := ⟨_, rfl⟩
                subst hw5
                have hf05 : Fr [] w w5 := hf04.step hfr4 (fun y hy => .inr (HB.out.new y hy).1)
                go_wp2
                go_loopg [24] C.n (fun m i wr => HiR3 w5 C.n m i wr)
                case atStart => exact ⟨0, by omega, rfl, Fr.refl _ _, rfl⟩
                case round =>
                  obtain ⟨j, hj, rfl, hfj, hmm⟩ := hrel
                  have HM5 := hide hmm
                  clear hmm
                  by_cases hjn : j < C.n
                  · have hji : (j : Int) < (C.n : Int) := by omega
                    have hct : cntI T.pr s2.r (j : Int) = 0 := by rw [cntI, HAT4.out.pn, if_pos ⟨by omega, hji⟩, Int.toNat_natCast, HEND.out j hjn]
                    have HCT := hide hct
                    clear hct
                    go_wp2_with fail
                    refine (tcount_any (HAT4.out.fr0 hfj) (j : Int)).mono ?_
                    rintro e w9 ⟨rfl, rfl⟩
                    rw [HCT.out]
                    go_wp2
                    go_roundg (C.n - (j + 1))
                    case measure => rw [HM5.out]; omega
                    case rel => exact ⟨j + 1, by omega, by go_num, hfj, rfl⟩
                  · have hji : ¬ (j : Int) < (C.n : Int) := by omega
                    go_wp2_with fail
                    refine (awake27_any wr).mono ?_
                    rintro e w7 ⟨rfl, hf7⟩
                    go_wp2
                    go_ret
                    exact ⟨rfl, (hf05.call hfj).call hf7⟩
end Go.Proofs.Ytdocdgghphhdpaa

