/- The law ResumeDrivesDevices, walked. -/
import Derived.Test.YtdocdgghphhdpaaTrL2Mg
import Derived.Test.YtdocdgghphhdpaaMgResumeDrives23
import Derived.Test.YtdocdgghphhdpaaMgResumeDrives17
import Derived.Test.YtdocdgghphhdpaaMgResumeDrives20
namespace Go.Proofs.Ytdocdgghphhdpaa
open Go.RowKit

def RwO (w : World) (raw : List DV) (m : Nat) (v9 : Value) (wr : World) : Prop := ∃ k : Nat, k ≤ raw.length ∧ v9 = .int .i64 (k : Int) ∧ (∀ x ∈ raw.take k, ∀ q, q < 4 → (x.rl q).length ≤ 20) ∧ w = wr ∧ m = raw.length - k
def RwI (w : World) (x : DV) (m : Nat) (v10 : Value) (wr : World) : Prop := ∃ q : Nat, q ≤ 4 ∧ v10 = .int .i64 (q : Int) ∧ (∀ p, p < q → (x.rl p).length ≤ 20) ∧ w = wr ∧ m = 4 - q
def RsL (w2 : World) (C : TC) (m : Nat) (v14 v15 : Value) (wr : World) : Prop :=
  ∃ k : Nat, k ≤ C.nd ∧ v15 = .int .i64 (k : Int) ∧ wr.ownsRow w2.heap.size 76 2 v14 (rlLinks (parR C) k).length (pcs (rlLinks (parR C) k)) ∧ Fr [] w2 wr ∧ m = C.nd - k
def RsR4 (w5 : World) (C : TC) (T : TP) (ds : List DV) (S : List Slt) (m : Nat) (v20 : Value) (wr : World) : Prop :=
  ∃ (i : Nat) (s : TSt), i ≤ C.nd ∧ v20 = .int .i64 (i : Int) ∧ TrAt wr T ds C s ∧ RsI C S i s ∧ Fr T.wr w5 wr ∧ m = C.nd - i
theorem Row.slt {w : World} {A : Option Addr} {l : List Slt} (hr : Row w A (scells l)) {i : Nat} {x : Slt} (h : l[i]? = some x) :
    ∃ ob oo, A = some ⟨ob, oo, none⟩ ∧ w.cell? ⟨ob, oo + i * 4, none⟩ = some (.int .i64 (x.d : Int)) ∧ w.cell? ⟨ob, oo + i * 4 + 2, none⟩ = some (.int .u64 (x.s : Int)) := by
  obtain ⟨ob, oo, e, hc⟩ := Row.el scell_len (by omega) hr h
  exact ⟨ob, oo, e, hc 0 _ rfl, hc 2 _ rfl⟩
theorem keep2c {w1 w2 : World} {S : List Nat} {a0 a1 : Addr} {v0 v1 : Value} (h : w1.cell? a0 = some v0 ∧ w1.cell? a1 = some v1) (k : Fr S w1 w2) (n0 : a0.block ∉ S) (n1 : a1.block ∉ S) : w2.cell? a0 = some v0 ∧ w2.cell? a1 = some v1 := ⟨k.cell h.1 n0, k.cell h.2 n1⟩
theorem durF_le2 {u : List Nat} {B : Nat} (h : ∀ x ∈ u, x ≤ B) (d : Nat) : durF u d ≤ B := by
  unfold durF
  rw [List.getD_eq_getElem?_getD]
  cases hd : u[d]? with
  | none => simp
  | some x => simpa using h x (List.mem_of_getElem? hd)
set_option maxHeartbeats 16000000 in
set_option maxRecDepth 100000 in
theorem resumeDrives_any (A0 : Option Addr) (cp0 : Nat) (raw : List DV) (A1 : Option Addr) (cp1 : Nat) (rls : List RailD) (A2 : Option Addr) (cp2 : Nat) (du : List Nat) (workers : Int) (w : World) (hr0 : Row w A0 (dvcs raw)) (hw0 : ∀ x ∈ raw, DvWf w x) (hm0 : raw.length ≤ maxLen) (hr1 : Row w A1 (rls.flatMap rlc)) (hm1 : rls.length ≤ maxLen) (hr2 : Row w A2 (du.map uv)) (hm2 : du.length ≤ maxLen) :
    Calls Try.prog 13 #[.slice A0 raw.length cp0, .slice A1 rls.length cp1, .slice A2 du.length cp2, .int .i64 workers] w fun e w' => e = .returned (.bool true) ∧ Fr [] w w' := by
  have HDV : Hid (DvsAt w A0 raw) := hide ⟨hr0, fun x hx => (hw0 x hx).1⟩
  have HW := hide hw0
  have HML := hide hm0
  have HMD := hide hm2
  have HR1 : Hid (Row w A1 (rlcs (fun i => rls.getD i ⟨0, 0, 0⟩) rls.length)) := hide (by rw [rlcs_list rls _ (fun i x h => by simp [List.getD, h])]; exact hr1)
  have HDU := hide hr2
  obtain ⟨i0, hi0, hz0, hz1, hz2⟩ := info_parts link_info4
  have HI := hide (And.intro hi0 (And.intro hz0 (And.intro hz1 hz2)))
  unfold maxLen at hm0 hm1 hm2
  clear hr0 hw0 hr1 hr2 hi0 hz0 hz1 hz2
  by_cases h20 : 20 < raw.length
  · have b1 : decide ((20 : Int) < (raw.length : Int)) = true := decide_eq_true (by omega)
    have b1n : decide (20 < raw.length) = true := decide_eq_true h20
    clear h20
    go_enter Try.func13, Try.ntmps13
    go_wp2_with fail
    refine (awake31_any w).mono ?_
    rintro e w7 ⟨rfl, hf7⟩
    go_wp2
    go_ret
    exact ⟨rfl, hf7⟩
  have b1 : decide ((20 : Int) < (raw.length : Int)) = false := decide_eq_false (by omega)
  have b1n : decide (20 < raw.length) = false := decide_eq_false h20
  by_cases h21 : 20 < rls.length
  · have b2 : decide ((20 : Int) < (rls.length : Int)) = true := decide_eq_true (by omega)
    have b2n : decide (20 < rls.length) = true := decide_eq_true h21
    clear h20 h21
    go_enter Try.func13, Try.ntmps13
    go_wp2_with fail
    refine (awake31_any w).mono ?_
    rintro e w7 ⟨rfl, hf7⟩
    go_wp2
    go_ret
    exact ⟨rfl, hf7⟩
  have b2 : decide ((20 : Int) < (rls.length : Int)) = false := decide_eq_false (by omega)
  have b2n : decide (20 < rls.length) = false := decide_eq_false h21
  go_enter Try.func13, Try.ntmps13
  go_wp2
  go_loopg [9] raw.length (fun m v9 wr => RwO w raw m v9 wr)
  case atStart => exact ⟨0, by omega, rfl, (fun x hx => by simp at hx), rfl, rfl⟩
  case round =>
    obtain ⟨k, hk, rfl, hall, rfl, hmm⟩ := hrel
    have HMO := hide hmm
    have HALL := hide hall
    clear hmm hall
    by_cases hkn : k < raw.length
    · have hki : (k : Int) < (raw.length : Int) := by omega
      obtain ⟨x, hx⟩ : ∃ x, raw[k]? = some x := ⟨_, List.getElem?_eq_getElem hkn⟩
      have HX := hide hx
      clear hx
      go_wp2
      go_loopg [10] 4 (fun m v10 wr => RwI w x m v10 wr)
      case atStart => exact ⟨0, by omega, rfl, (fun p hp => by omega), rfl, rfl⟩
      case round =>
        obtain ⟨q, hq, rfl, hal2, rfl, hmm⟩ := hrel
        have HMI := hide hmm
        have HAL2 := hide hal2
        clear hmm hal2
        by_cases hqn : q < 4
        · have hqi : (q : Int) < 4 := by omega
          obtain ⟨ob, oo, A', cp', rfl, cR, -⟩ := HDV.out.rail HX.out hqn
          by_cases h20 : 20 < (x.rl q).length
          · have g1 : decide ((20 : Int) < ((x.rl q).length : Int)) = true := decide_eq_true (by omega)
            have g1n : decide (20 < (x.rl q).length) = true := decide_eq_true h20
            clear h20
            go_wp2_with fail
            refine (awake31_any w).mono ?_
            rintro e w7 ⟨rfl, hf7⟩
            go_wp2
            go_ret
            exact ⟨rfl, hf7⟩
          · have g1 : decide ((20 : Int) < ((x.rl q).length : Int)) = false := decide_eq_false (by omega)
            have g1n : decide (20 < (x.rl q).length) = false := decide_eq_false h20
            have HQ : Hid (∀ p, p < q + 1 → (x.rl p).length ≤ 20) := hide (fun p hp => by
              by_cases e : p = q
              · subst e; omega
              · exact HAL2.out p (by omega))
            clear h20
            go_wp2
            go_roundg (4 - (q + 1))
            case measure => rw [HMI.out]; omega
            case rel => exact ⟨q + 1, by omega, by go_num, HQ.out, rfl, rfl⟩
        · have hqe : q = 4 := by omega
          subst hqe
          have HQ : Hid (∀ y ∈ raw.take (k + 1), ∀ q, q < 4 → (y.rl q).length ≤ 20) := hide (fun y hy q hq => by
            rw [take_succ_some HX.out, List.mem_append, List.mem_singleton] at hy
            rcases hy with hy | rfl
            · exact HALL.out y hy q hq
            · exact HAL2.out q hq)
          have hqi : ¬ (((4 : Nat) : Int)) < 4 := by omega
          go_wp2
          go_roundg (raw.length - (k + 1))
          case measure => rw [HMO.out]; omega
          case rel => exact ⟨k + 1, by omega, by go_num, HQ.out, rfl, rfl⟩
    · have hke : k = raw.length := by omega
      subst hke
      have hki : ¬ (raw.length : Int) < (raw.length : Int) := by omega
      have HLG : Hid (∀ x ∈ raw, ∀ k, (x.rl k).length ≤ 4096) := hide (fun x hx k => by
        by_cases h : k < 4
        · have := HALL.out x (by rw [List.take_length]; exact hx) k h
          omega
        · rw [(HW.out x hx).2.2 k (by omega)]
          simp)
      clear HALL HMO hki
      go_wp2_with fail
      refine (some25_any A1 cp1 rls.length _ w HR1.out (by omega)).mono ?_
      rintro e w1 ⟨v7, m, R, rk, rfl, hown7, hgood, hf1⟩
      obtain ⟨A7, c7, rfl, -, -, -⟩ := own_slice hown7
      have hn8 := hgood.n8
      have HOWN7 := hide hown7
      have HGOOD := hide hgood
      clear hown7 hgood
      go_wp2_with fail
      refine (some27_any A0 cp0 raw m w1 (HDV.out.fr0 hf1) HML.out (fun x hx k => Nat.le_trans (HLG.out x hx k) (by unfold maxLen; omega)) (by omega)).mono ?_
      rintro e w2 ⟨v8, out, rfl, hown8, hrl, hso, hf2⟩
      obtain ⟨A8, c8, rfl, -, hrow8, -⟩ := own_slice hown8
      obtain ⟨C, rfl, hnd, htie, hok, hcall⟩ := brd_new2 HOWN7.out HGOOD.out hf1 hown8 hrl hso hf2
      have hnd6 : out.length ≤ 6 := by rw [hso.1]; omega
      have HDV8 : Hid (DvsAt w2 A8 out) := hide ⟨hrow8, fun x hx => (hrl x hx).at_⟩
      have HTIE := hide htie
      have HND := hide hnd
      have HOK := hide hok
      rw [hnd] at hcall hnd6 ⊢
      have HCALL := hide hcall
      have hf02 := hf1.call hf2
      clear hcall hown8 hrl hso HOWN7 HGOOD hnd hrow8 htie hok hf1 hf2
      go_wp2
      go_loopg [14, 15] C.nd (fun m v14 v15 wr => RsL w2 C m v14 v15 wr)
      case atStart => exact ⟨0, by omega, rfl, own_nil _ _ _ _, Fr.refl _ _, rfl⟩
      case round =>
        obtain ⟨k, hk, rfl, hown, hfr, hmm⟩ := hrel
        obtain ⟨A14, c14, rfl, -, -, -⟩ := own_slice hown
        have HML2 := hide hmm
        have HOWN := hide hown
        have HLN := hide (show rlLinks (parR C) (k + 1) = if 0 ≤ C.par k then rlLinks (parR C) k ++ [((k : Int), C.par k)] else rlLinks (parR C) k from rfl)
        have hll := rlLinks_len (parR C) k
        clear hmm hown
        by_cases hkn : k < C.nd
        · have hki : (k : Int) < (C.nd : Int) := by omega
          obtain ⟨ob, oo, rfl, p0⟩ := (HDV8.out.fr0 hfr).par HND.out HTIE.out hkn
          generalize C.par k = pk at p0 HLN
          generalize hLk : rlLinks (parR C) k = L0 at HOWN HLN hll ⊢
          clear hLk
          have hsz := hfr.size
          by_cases h0 : 0 ≤ pk
          · have g0 : decide ((0 : Int) ≤ pk) = true := decide_eq_true h0
            have HL2 := HLN.out
            rw [if_pos h0] at HL2
            have HL3 := hide HL2
            clear HL2 HLN h0
            go_upto_region 17 with (first
              | (at_builtin
                 refine wpList_append_row _ rfl (.tmp 72) (.tmp 80) _ rfl w2.heap.size 76 i0 (.agg #[.int .i64 0, .int .i64 0]) 2 16 Try.underlying74 HI.out.1 HI.out.2.1 HI.out.2.2.1 HI.out.2.2.2 rfl (by omega) (.slice A14 L0.length c14) L0.length (pcs L0) rfl
                   (own_fr HOWN.out ((Fr.refl [] _).alloc _) (fun _ _ => by simp)) (some ⟨wr.heap.size, 0, none⟩) 1 1 [.int .i64 (k : Int), .int .i64 pk] rfl rfl (row_lit wr _ _ rfl) (by intro u hu; simp at hu; rcases hu with rfl | rfl <;> rfl) (by simp only [maxLen]; omega) (by omega) (by simp; omega) ?_
                 intro v3 w3 hown3 hg3 hat3))
            obtain ⟨A3, c3, rfl, -, -, -⟩ := own_slice hown3
            have hf03 : Fr [] w2 w3 := (hfr.alloc _).grown hg3 (fun y hy => .inr (own_block HOWN.out hy).1)
            have HOW3 := hide hown3
            clear hown3 hg3 hat3 p0
            go_wp2
            go_roundg (C.nd - (k + 1))
            case measure => rw [HML2.out]; omega
            case rel => exact ⟨k + 1, by omega, by go_num, by rw [HL3.out, pcs_snoc, List.length_append]; exact HOW3.out, hf03, rfl⟩
          · have g0 : decide ((0 : Int) ≤ pk) = false := decide_eq_false h0
            have HL2 := HLN.out
            rw [if_neg h0] at HL2
            have HL3 := hide HL2
            clear HL2 HLN h0
            go_wp2
            go_roundg (C.nd - (k + 1))
            case measure => rw [HML2.out]; omega
            case rel => exact ⟨k + 1, by omega, by go_num, by rw [HL3.out]; exact HOWN.out, hfr, rfl⟩
        · have hke : k = C.nd := by omega
          subst hke
          have hki : ¬ (C.nd : Int) < (C.nd : Int) := by omega
          obtain ⟨A14', c14', e14, -, hrow14, -⟩ := own_slice HOWN.out
          injection e14 with e14 _ e14c
          subst e14 e14c
          clear HLN
          go_wp2_with fail
          refine (HCALL.out wr hfr).mono ?_
          rintro e w3 ⟨T, ds', rfl, hb, hfr3⟩
          have HB := hide hb
          have hf03 := hb.fr
          have hnd6' := hb.nd6
          clear hb HCALL hf02
          have HROW := hide hrow14
          clear hrow14
          have HAT3 := hide HB.out.at_
          go_wp2_with fail
          refine (durations_any C.nd A2 cp2 du w3 (HDU.out.fr0 hf03) (by omega) HMD.out).mono ?_
          rintro e w4 ⟨vd, rfl, hownd, hf34⟩
          obtain ⟨Ad, cd, rfl, -, hrowd, -⟩ := own_slice hownd
          have hwk := umod_lt workers (show 0 < 5 by omega)
          go_wp2_with fail
          refine (mod_int workers 5 w4 (by omega) (by omega)).mono ?_
          rintro e w' ⟨rfl, rfl⟩
          rw [show (5 : Int).toNat = 5 from rfl]
          generalize umod workers 5 = wk at hwk ⊢
          obtain ⟨W, hW⟩ : ∃ W, W = 1 + wk := ⟨_, rfl⟩
          have hWi : (W : Int) = 1 + (wk : Int) := by omega
          have hW16 : 1 ≤ W ∧ W ≤ 16 := by omega
          obtain ⟨hsch, hdone⟩ := rs_sched HOK.out (durM_length C.nd du) (fun x hx => durM_le hx) hW16
          have HDL : Hid (∀ d, durF (durM C.nd du) d ≤ 11) := hide (durF_le2 (fun x hx => durM_le hx))
          have HSCH := hide hsch
          have HDONE := hide hdone
          have hduln := durM_length C.nd du
          have HROWD := hide hrowd
          generalize durM C.nd du = u at HSCH HDONE HDL HROWD hduln
          clear hsch hdone hrowd hownd
          have hll5 := rlLinks_len (parR C) C.nd
          have HLK := hide (HROW.out.fr0 (hfr3.call hf34))
          have hsc := schedule31_any (C.nd : Int) (W : Int) A14 Ad c14 cd (rlLinks (parR C) C.nd) u w4 HLK.out HROWD.out (by omega)
          rw [hduln, HSCH.out, hWi] at hsc
          have HSC := hide hsc
          clear hsc hduln HLK HROWD HROW hWi
          generalize (rlLinks (parR C) C.nd).length = ln at HSC ⊢
          go_wp2_with fail
          refine HSC.out.mono ?_
          rintro e w5 ⟨vs, rfl, hows, hf45⟩
          dsimp only at hows
          have hsl := HDONE.out.len
          obtain ⟨As, cs, rfl, -, hrows, hbls⟩ := own_slice hows
          have HDN := HDONE.out
          generalize sched C.nd (rlN (parR C) C.nd) (durF u) W = S at HDN hsl hrows ⊢
          have HDON := hide HDN
          rw [hsl]
          have HSL := hide hsl
          have HROS := hide hrows
          have HBLS := hide hbls
          have HAT5 := hide (HAT3.out.fr0 (hf34.call hf45))
          have hf35 := hf34.call hf45
          have hf05 := hf03.call hf35
          have HLIM : Hid (∀ k, k < C.n → (C.R k).up < 20) := hide (fun k hk => (HB.out.lim k hk).1)
          have hsz35 := hf35.size
          have hsz34 := hf34.size
          have HOB : Hid (∀ ad, As = some ad → ad.block ∉ T.wr) := hide (fun ad e hm => by
            have := (HBLS.out ad e).1
            have := (HB.out.new _ hm).2
            omega)
          clear HDN hsl hrows hbls hows HSC HDONE HSCH hW16 hf34 hf45 hfr3 hfr HAT3 hwk hW hll hll5 HML2 HOWN
          go_wp2
          go_loopg [20] C.nd (fun m v20 wz => RsR4 w5 C T ds' S m v20 wz)
          case atStart => exact ⟨0, tsz, by omega, rfl, HAT5.out, rs_start C S, Fr.refl _ _, rfl⟩
          case round =>
            obtain ⟨i, s, hi, rfl, hat, hri, hfz, hmm⟩ := hrel
            have HM4 := hide hmm
            have HATr := hide hat
            have HRI := hide hri
            clear hmm hat hri HAT5
            by_cases hin : i < C.nd
            · obtain ⟨x, hx⟩ : ∃ x, S[i]? = some x := ⟨_, List.getElem?_eq_getElem (by rw [HSL.out]; exact hin)⟩
              obtain ⟨ob2, oo2, rfl, e0, e2⟩ := (row_out HROS.out hfz HOB.out).slt hx
              have hst := rs_step HOK.out HLIM.out hnd6 HDL.out HDON.out hx HRI.out
              have HST := hide hst
              have hii : (i : Int) < (C.nd : Int) := by omega
              have HNB := hide (HOB.out _ rfl)
              clear hst hx
              generalize x.d = xd at e0 HST
              generalize x.s = xs at e2 HST
              have HQ := hide (And.intro e0 e2)
              clear e0 e2
              go_upto_region 27 with (fail)
              go_region_held3 (fun w' => w'.cell? ⟨ob2, oo2 + i * 4, none⟩ = some (.int .i64 (xd : Int)) ∧ w'.cell? ⟨ob2, oo2 + i * 4 + 2, none⟩ = some (.int .u64 (xs : Int))) (first | exact keep2c HQ.out (Fr.refl [] _).drew (by simp) (by simp) | exact keep2c (by assumption) (Fr.refl [] _).drew (by simp) (by simp) | exact keep2c (by assumption) hf6 HNB.out HNB.out | exact keep2c HQ.out hf6 HNB.out HNB.out) (first | (go_at_call 20; refine (tset_any (by first | exact HATr.out.fr0 (Fr.refl [] _).drew | exact HATr.out) HOK.out HRI.out.inv (xd : Int) 0 xs).mono ?_; rintro e w6 ⟨v6, rfl, hat6, hown6, hf6⟩; obtain ⟨A6, c6, rfl, -, -, -⟩ := own_slice hown6))
              obtain ⟨q1, -, q3⟩ := HST.out
              generalize setM C xs (xd : Int) 0 s = r at hat6 q1 q3 hown6 ⊢
              rw [q1]
              have HAT6 := hide hat6
              have HRI6 := hide q3
              have hfz6 : Fr T.wr w5 w6 := by first | exact hfz.trans hf6 | exact (hfz.call (Fr.refl [] _).drew).trans hf6
              clear hat6 hown6 q1 q3 HST HQ
              go_wp2
              go_roundg (C.nd - (i + 1))
              case measure => rw [HM4.out]; omega
              case rel => exact ⟨i + 1, r.1, by omega, by go_num, HAT6.out, HRI6.out, hfz6, rfl⟩
            · have hie : i = C.nd := by omega
              subst hie
              have hii : ¬ (C.nd : Int) < (C.nd : Int) := by omega
              have HACC : Hid (∀ k, k < C.nd → accM C T.pr s (k : Int) 1099511627776 = true) := hide (fun k hk => rs_acc HOK.out hnd6 HDON.out (by rw [HSL.out]; exact HRI.out) HATr.out.pn hk)
              have hf0z : Fr [] w wr := hf05.step hfz (fun y hy => .inr (HB.out.new y hy).1)
              obtain ⟨w8, hw8⟩ : ∃ w8, w8 = wr := ⟨_, rfl⟩
              subst hw8
              go_wp2
              go_loopg [23] C.nd (fun m v wz => HiR3 w8 C.nd m v wz)
              case atStart => exact ⟨0, by omega, rfl, Fr.refl _ _, rfl⟩
              case round =>
                obtain ⟨k, hk, rfl, hfk, hmm⟩ := hrel
                have HM5 := hide hmm
                clear hmm
                by_cases hkn : k < C.nd
                · have hki : (k : Int) < (C.nd : Int) := by omega
                  have HA := hide (HACC.out k hkn)
                  go_wp2_with fail
                  refine (tacc_any (HATr.out.fr0 hfk) HOK.out (k : Int) 1099511627776).mono ?_
                  rintro e w9 ⟨rfl, rfl⟩
                  rw [HA.out]
                  go_wp2
                  go_roundg (C.nd - (k + 1))
                  case measure => rw [HM5.out]; omega
                  case rel => exact ⟨k + 1, by omega, by go_num, hfk, rfl⟩
                · have hki : ¬ (k : Int) < (C.nd : Int) := by omega
                  go_wp2_with fail
                  refine (awake31_any wr).mono ?_
                  rintro e w9 ⟨rfl, hf9⟩
                  go_wp2
                  go_ret
                  exact ⟨rfl, (hf0z.call hfk).call hf9⟩
end Go.Proofs.Ytdocdgghphhdpaa

/- Arguments that came in, opened: slices of uint64, beside the other openings of the tree's laws. -/
namespace Go.Proofs.Ytdocdgghphhdpaa
open Go.RowKit Go.ChangeShapes Go.WideShapes Go.Deep
section
variable {H : Type} {enc : TypeId × Value → H} {w : World} {base : Nat} {spare : Nat → Bool} {held : Bool}
theorem open_u64l {A : Option Addr} {len cap : Nat} {d : DataW H} {p : List MemPlace} (h : DataW.Trod enc Try.prog w base spare held 82 (.slice A len cap) d p) :
    ∃ l : List Nat, l.length = len ∧ Row w A (l.map uv) ∧ l.length ≤ maxLen ∧ (A = none → cap = 0) ∧ ∀ q ∈ l, q ≤ 18446744073709551615 := by
  obtain ⟨l, h1, h2, h3⟩ := open_rows (f := fun x : Nat => [uv x]) (m := 1) (Wf := fun q => q ≤ 18446744073709551615) Try.underlying82 (by kernel_rfl) (by omega) (fun _ => rfl) (fun n cs y h => by
    obtain ⟨a, rfl, _, wa⟩ := DataW.trod_int Try.underlying33 h
    obtain ⟨n, rfl, hn⟩ := nat_of wa
    exact ⟨n, rfl, hn⟩) h
  rw [flat_one] at h2
  exact ⟨l, h1, h2, h3⟩
end
end Go.Proofs.Ytdocdgghphhdpaa

