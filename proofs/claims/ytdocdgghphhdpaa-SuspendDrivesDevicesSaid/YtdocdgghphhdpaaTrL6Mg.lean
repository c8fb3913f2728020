/- The law SuspendDrivesDevices, walked. -/
import Derived.Test.YtdocdgghphhdpaaTrL2Mg
import Derived.Test.YtdocdgghphhdpaaSuP5Mg
import Derived.Test.YtdocdgghphhdpaaMgSuspDrives21
namespace Go.Proofs.Ytdocdgghphhdpaa
open Go.RowKit

def RwO (w : World) (raw : List DV) (m : Nat) (v9 : Value) (wr : World) : Prop := ∃ k : Nat, k ≤ raw.length ∧ v9 = .int .i64 (k : Int) ∧ (∀ x ∈ raw.take k, ∀ q, q < 4 → (x.rl q).length ≤ 20) ∧ w = wr ∧ m = raw.length - k
def RwI (w : World) (x : DV) (m : Nat) (v10 : Value) (wr : World) : Prop := ∃ q : Nat, q ≤ 4 ∧ v10 = .int .i64 (q : Int) ∧ (∀ p, p < q → (x.rl p).length ≤ 20) ∧ w = wr ∧ m = 4 - q
def SuO (w3 : World) (n : Nat) (m : Nat) (v11 v12 : Value) (wr : World) : Prop :=
  ∃ k : Nat, k ≤ n ∧ v12 = .int .i64 (k : Int) ∧ wr.ownsRow w3.heap.size 3 1 v11 k ((List.range k).map nv) ∧ Fr [] w3 wr ∧ m = n - k
def SuR4 (w5 : World) (C : TC) (T : TP) (ds : List DV) (m : Nat) (v15 : Value) (wr : World) : Prop :=
  ∃ (i : Nat) (s : TSt), i ≤ C.nd ∧ v15 = .int .i64 (i : Int) ∧ TrAt wr T ds C s ∧ SuJ C i s ∧ Fr T.wr w5 wr ∧ m = C.nd - i
def seq1 (n lo : Nat) : Seq := { ord := List.range n, st := if n = 0 then 2 else 1, ph := 1, po := 0, sc := fun _ => false, rs := 0, lo := lo }
theorem seq1_dn {n lo : Nat} (ho : OkOrd (List.range n)) : Dn (seq1 n lo) (List.range n) 0 := by
  have h := Dn.init ho
  have e : ∀ n, (seq0 (List.range n)) = { seq1 n 0 with lo := 0 } := fun n => by simp [seq0, seq1]
  rw [e] at h
  exact ⟨⟨h.ok.1, h.ok.2, h.ok.3, h.ok.4⟩, h.ord, h.sc, h.st, h.rs⟩
def SuR5 (w : World) (C : TC) (T : TP) (ds : List DV) (b lo : Nat) (m : Nat) (v18 : Value) (wr : World) : Prop :=
  ∃ (k : Nat) (s : TSt) (S : Seq), k ≤ 8 * C.nd ∧ v18 = .int .i64 (k : Int) ∧ TrAt wr T ds C s ∧ SuI C k s ∧ SeqAt wr b S ∧ S.Ok ∧ S.lo = lo ∧ SqP S C.nd k ∧ Fr [] w wr ∧ m = 8 * C.nd - k
def SuCut (w : World) (C : TC) (T : TP) (ds : List DV) (b lo k : Nat) (s : TSt) (wx : World) : Prop :=
  ∃ S1 : Seq, TrAt wx T ds C s ∧ SeqAt wx b S1 ∧ SuMid S1 C.nd k lo ∧ Fr [] w wx
theorem fr_b {w w1 w2 : World} {b : Nat} (h : Fr [] w w1) (k : Fr [b] w1 w2) (hb : w.heap.size ≤ b) : Fr [] w w2 := h.step k (fun y hy => .inr (by rw [List.mem_singleton.1 hy]; exact hb))
/-- The tree when another block turned. -/
theorem TrAt.other {w w' : World} {T : TP} {ds : List DV} {C : TC} {s : TSt} {b lo : Nat} (h : TrAt w T ds C s) (hl : TrLow T ds lo) (k : Fr [b] w w') (hb : lo ≤ b) : TrAt w' T ds C s := h.frGe hl k (fun y hy => by rw [List.mem_singleton.1 hy]; exact hb)
set_option maxHeartbeats 16000000 in
set_option maxRecDepth 100000 in
theorem suspDrives_any (A0 : Option Addr) (cp0 : Nat) (raw : List DV) (A1 : Option Addr) (cp1 : Nat) (rls : List RailD) (w : World) (hr0 : Row w A0 (dvcs raw)) (hw0 : ∀ x ∈ raw, DvWf w x) (hm0 : raw.length ≤ maxLen) (hr1 : Row w A1 (rls.flatMap rlc)) (hm1 : rls.length ≤ maxLen) :
    Calls Try.prog 8 #[.slice A0 raw.length cp0, .slice A1 rls.length cp1] w fun e w' => e = .returned (.bool true) ∧ Fr [] w w' := by
  have HDV : Hid (DvsAt w A0 raw) := hide ⟨hr0, fun x hx => (hw0 x hx).1⟩
  have HW := hide hw0
  have HML := hide hm0
  have HR1 : Hid (Row w A1 (rlcs (fun i => rls.getD i ⟨0, 0, 0⟩) rls.length)) := hide (by rw [rlcs_list rls _ (fun i x h => by simp [List.getD, h])]; exact hr1)
  obtain ⟨i1, hj0, hy0, hy1, hy2⟩ := info_parts int_info1
  have HII := hide (And.intro hj0 (And.intro hy0 (And.intro hy1 hy2)))
  unfold maxLen at hm0 hm1
  clear hr0 hw0 hr1 hj0 hy0 hy1 hy2
  by_cases h20 : 20 < raw.length
  · have b1 : decide ((20 : Int) < (raw.length : Int)) = true := decide_eq_true (by omega)
    have b1n : decide (20 < raw.length) = true := decide_eq_true h20
    clear h20
    go_enter Try.func8, Try.ntmps8
    go_wp2_with fail
    refine (awake30_any w).mono ?_
    rintro e w7 ⟨rfl, hf7⟩
    go_wp2
    go_ret
    exact ⟨rfl, hf7⟩
  have b1 : decide ((20 : Int) < (raw.length : Int)) = false := decide_eq_false (by omega)
  have b1n : decide (20 < raw.length) = false := decide_eq_false h20
  by_cases h21 : 20 < rls.length
  · have b2 : decide ((20 : Int) < (rls.length : Int)) = true := decide_eq_true (by omega)
    have b2n : decide (20 < rls.length) = true := decide_eq_true h21
    clear h20 h21
    go_enter Try.func8, Try.ntmps8
    go_wp2_with fail
    refine (awake30_any w).mono ?_
    rintro e w7 ⟨rfl, hf7⟩
    go_wp2
    go_ret
    exact ⟨rfl, hf7⟩
  have b2 : decide ((20 : Int) < (rls.length : Int)) = false := decide_eq_false (by omega)
  have b2n : decide (20 < rls.length) = false := decide_eq_false h21
  go_enter Try.func8, Try.ntmps8
  go_wp2
  go_loopg [5] raw.length (fun m v9 wr => RwO w raw m v9 wr)
  case atStart => exact ⟨0, by omega, rfl, (fun x hx => by simp at hx), rfl, rfl⟩
  case round =>
    obtain ⟨k, hk, rfl, hall, rfl, hmm⟩ := hrel
    have HMO := hide hmm
    have HALL := hide hall
    clear hmm hall
    by_cases hkn : k < raw.length
    · have hki : (k : Int) < (raw.length : Int) := by omega
      obtain ⟨x, hx⟩ : ∃ x, raw[k]? = some x := ⟨_, List.getElem?_eq_getElem hkn⟩
      have HX := hide hx
      clear hx
      go_wp2
      go_loopg [6] 4 (fun m v10 wr => RwI w x m v10 wr)
      case atStart => exact ⟨0, by omega, rfl, (fun p hp => by omega), rfl, rfl⟩
      case round =>
        obtain ⟨q, hq, rfl, hal2, rfl, hmm⟩ := hrel
        have HMI := hide hmm
        have HAL2 := hide hal2
        clear hmm hal2
        by_cases hqn : q < 4
        · have hqi : (q : Int) < 4 := by omega
          obtain ⟨ob, oo, A', cp', rfl, cR, -⟩ := HDV.out.rail HX.out hqn
          by_cases h20 : 20 < (x.rl q).length
          · have g1 : decide ((20 : Int) < ((x.rl q).length : Int)) = true := decide_eq_true (by omega)
            have g1n : decide (20 < (x.rl q).length) = true := decide_eq_true h20
            clear h20
            go_wp2_with fail
            refine (awake30_any w).mono ?_
            rintro e w7 ⟨rfl, hf7⟩
            go_wp2
            go_ret
            exact ⟨rfl, hf7⟩
          · have g1 : decide ((20 : Int) < ((x.rl q).length : Int)) = false := decide_eq_false (by omega)
            have g1n : decide (20 < (x.rl q).length) = false := decide_eq_false h20
            have HQ : Hid (∀ p, p < q + 1 → (x.rl p).length ≤ 20) := hide (fun p hp => by
              by_cases e : p = q
              · subst e; omega
              · exact HAL2.out p (by omega))
            clear h20
            go_wp2
            go_roundg (4 - (q + 1))
            case measure => rw [HMI.out]; omega
            case rel => exact ⟨q + 1, by omega, by go_num, HQ.out, rfl, rfl⟩
        · have hqe : q = 4 := by omega
          subst hqe
          have HQ : Hid (∀ y ∈ raw.take (k + 1), ∀ q, q < 4 → (y.rl q).length ≤ 20) := hide (fun y hy q hq => by
            rw [take_succ_some HX.out, List.mem_append, List.mem_singleton] at hy
            rcases hy with hy | rfl
            · exact HALL.out y hy q hq
            · exact HAL2.out q hq)
          have hqi : ¬ (((4 : Nat) : Int)) < 4 := by omega
          go_wp2
          go_roundg (raw.length - (k + 1))
          case measure => rw [HMO.out]; omega
          case rel => exact ⟨k + 1, by omega, by go_num, HQ.out, rfl, rfl⟩
    · have hke : k = raw.length := by omega
      subst hke
      have hki : ¬ (raw.length : Int) < (raw.length : Int) := by omega
      have HLG : Hid (∀ x ∈ raw, ∀ k, (x.rl k).length ≤ 4096) := hide (fun x hx k => by
        by_cases h : k < 4
        · have := HALL.out x (by rw [List.take_length]; exact hx) k h
          omega
        · rw [(HW.out x hx).2.2 k (by omega)]
          simp)
      clear HALL HMO hki
      go_wp2_with fail
      refine (some25_any A1 cp1 rls.length _ w HR1.out (by omega)).mono ?_
      rintro e w1 ⟨v7, m, R, rk, rfl, hown7, hgood, hf1⟩
      obtain ⟨A7, c7, rfl, -, -, -⟩ := own_slice hown7
      have hn8 := hgood.n8
      have HOWN7 := hide hown7
      have HGOOD := hide hgood
      clear hown7 hgood
      go_wp2_with fail
      refine (some27_any A0 cp0 raw m w1 (HDV.out.fr0 hf1) HML.out (fun x hx k => Nat.le_trans (HLG.out x hx k) (by unfold maxLen; omega)) (by omega)).mono ?_
      rintro e w2 ⟨v8, out, rfl, hown8, hrl, hso, hf2⟩
      obtain ⟨A8, c8, rfl, -, -, -⟩ := own_slice hown8
      obtain ⟨C, rfl, hnd, hcall⟩ := brd_new HOWN7.out HGOOD.out hf1 hown8 hrl hso hf2
      rw [hnd] at hcall ⊢
      have HCALL := hide hcall
      clear hcall hown8 hrl hso HOWN7 HGOOD hnd
      go_wp2_with fail
      refine HCALL.out.mono ?_
      rintro e w3 ⟨T, ds', rfl, hb⟩
      have HB := hide hb
      have hnd6 := hb.nd6
      have hf03 := hb.fr
      have HOK := hide hb.ok
      clear hb HCALL hf1 hf2 HDV HW HML HR1 HLG
      go_wp2
      go_loopg [11, 12] C.nd (fun m v11 v12 wr => SuO w3 C.nd m v11 v12 wr)
      case atStart => exact ⟨0, by omega, rfl, own_nil _ _ _ _, Fr.refl _ _, rfl⟩
      case round =>
        obtain ⟨k, hk, rfl, hown, hfr, hmm⟩ := hrel
        obtain ⟨A11, c11, rfl, hnil, -, -⟩ := own_slice hown
        have HM0 := hide hmm
        have HOWN := hide hown
        have HNIL := hide hnil
        clear hmm hown hnil
        by_cases hkn : k < C.nd
        · have hki : (k : Int) < (C.nd : Int) := by omega
          have hsz := hfr.size
          go_upto_region 17 with (first
            | (at_builtin
               refine wpList_append_row _ rfl (.tmp 72) (.tmp 74) _ rfl w3.heap.size 3 i1 (.int .i64 0) 1 8 Try.underlying34 HII.out.1 HII.out.2.1 HII.out.2.2.1 HII.out.2.2.2 rfl (by omega) (.slice A11 k c11) k ((List.range k).map nv) rfl
                 (own_fr HOWN.out ((Fr.refl [] _).alloc _) (fun _ _ => by simp)) (some ⟨wr.heap.size, 0, none⟩) 1 1 [.int .i64 (k : Int)] rfl rfl (row_one wr _ _) (by intro u hu; simp at hu; subst hu; rfl) (by simp only [maxLen]; omega) (by omega) (by simp; omega) ?_
               intro v5 w5 hown5 hg5 hat5))
          obtain ⟨A5, c5, rfl, -, -, -⟩ := own_slice hown5
          have hf5 : Fr [] w3 w5 := (hfr.alloc _).grown hg5 (fun y hy => .inr (own_block HOWN.out hy).1)
          have HOW5 := hide (show w5.ownsRow w3.heap.size 3 1 (.slice A5 (k + 1) c5) (k + 1) ((List.range (k + 1)).map nv) from by
            rw [List.range_succ, List.map_append]
            exact hown5)
          clear hown5 hg5 hat5
          go_wp2
          go_roundg (C.nd - (k + 1))
          case measure => rw [HM0.out]; omega
          case rel => exact ⟨k + 1, by omega, by go_num, HOW5.out, hf5, rfl⟩
        · have hke : k = C.nd := by omega
          subst hke
          have hki : ¬ (C.nd : Int) < (C.nd : Int) := by omega
          obtain ⟨A11', c11', e11, -, hrow11, -⟩ := own_slice HOWN.out
          injection e11 with e11 _ e11c
          subst e11 e11c
          have HRO : Hid (Row wr A11 ((toInts (List.range C.nd)).map (Value.int .i64))) := hide (by rw [toInts_nv]; exact hrow11)
          have hln : (toInts (List.range C.nd)).length = C.nd := by simp [toInts]
          have hnew := new_any A11 c11 (toInts (List.range C.nd)) wr HRO.out HNIL.out (by rw [hln]; omega)
          rw [hln] at hnew
          have HNEW := hide hnew
          have hgd : (toInts (List.range C.nd)).length ≤ 64 ∧ Good (toInts (List.range C.nd)) := ⟨by rw [hln]; omega, good_of_perm (by rw [List.length_range])⟩
          have HGD := hide hgd
          have HLN := hide hln
          clear hrow11 hnew hgd hln HM0
          go_wp2_with fail
          refine HNEW.out.mono ?_
          rintro e w4 (⟨hno, -, -⟩ | ⟨-, b, rfl, hbw, hsq, hfr4⟩)
          · exact absurd HGD.out hno
          rw [toInts_toNat, HLN.out] at hsq
          have HSQ := hide hsq
          have hf34 := hfr.call hfr4
          have hlo : w3.heap.size ≤ wr.heap.size := hfr.size
          have HAT4 := hide (HB.out.at_.fr0 hf34)
          obtain ⟨lo, hloe⟩ : ∃ lo, lo = wr.heap.size := ⟨_, rfl⟩
          rw [← hloe] at HSQ hlo hbw
          have HLOE := hide hloe
          clear hsq hfr4 HNEW HGD HLN HNIL HRO HOWN hloe
          have HWB : Hid (∀ g ∈ T.wr, g < lo ∧ g ≠ b) := hide (fun g hg => by
            have := (HB.out.new g hg).2
            omega)
          have hf04 := hf03.call hf34
          go_wp2
          go_loopg [15] C.nd (fun m v15 wz => SuR4 w4 C T ds' m v15 wz)
          case atStart => exact ⟨0, tsz, by omega, rfl, HAT4.out, suj_start C, Fr.refl _ _, rfl⟩
          case round =>
            obtain ⟨i, s, hi, rfl, hat, hsj, hfz, hmm⟩ := hrel
            have HM4 := hide hmm
            have HATr := hide hat
            have HSJ := hide hsj
            clear hmm hat hsj HAT4
            by_cases hin : i < C.nd
            · have hii : (i : Int) < (C.nd : Int) := by omega
              have hst := suj_step HOK.out HSJ.out hin
              have HST := hide hst
              clear hst
              go_wp2_with fail
              refine (tset_any HATr.out HOK.out HSJ.out.inv (i : Int) 0 0).mono ?_
              rintro e w6 ⟨v6, rfl, hat6, hown6, hf6⟩
              obtain ⟨A6, c6, rfl, -, -, -⟩ := own_slice hown6
              obtain ⟨q1, q3⟩ := HST.out
              generalize setM C 0 (i : Int) 0 s = r at hat6 q1 q3 hown6 ⊢
              rw [q1]
              have HAT6 := hide hat6
              have HSJ6 := hide q3
              have hfz6 := hfz.trans hf6
              clear hat6 hown6 q1 q3 HST
              go_wp2
              go_roundg (C.nd - (i + 1))
              case measure => rw [HM4.out]; omega
              case rel => exact ⟨i + 1, r.1, by omega, by go_num, HAT6.out, HSJ6.out, hfz6, rfl⟩
            · have hie : i = C.nd := by omega
              subst hie
              have hii : ¬ (C.nd : Int) < (C.nd : Int) := by omega
              have HSI := hide (suj_done HSJ.out)
              have HSQ5 := hide (HSQ.out.frLo hfz (fun hm => (HWB.out b hm).2 rfl) (fun g hg => (HWB.out g hg).1))
              have hf0z : Fr [] w wr := hf04.step hfz (fun y hy => .inr (HB.out.new y hy).1)
              have HOO : Hid (OkOrd (List.range C.nd)) := hide ⟨by rw [List.length_range]; omega, fun d hd => by rw [List.length_range]; exact List.mem_range.1 hd⟩
              clear HSJ HSQ
              have HLT : Hid (TrLow T ds' w3.heap.size) := hide HB.out.at_.low
              have hb0 : w3.heap.size ≤ b := by omega
              have hwb : w.heap.size ≤ b := by have := hf03.size; omega
              have HSQP : Hid (SqP (seq1 C.nd lo) C.nd 0) := hide ⟨fun _ => seq1_dn HOO.out, fun h => by omega⟩
              go_wp2
              go_loopg [18] (8 * C.nd) (fun m v18 wz => SuR5 w C T ds' b lo m v18 wz)
              case atStart => exact ⟨0, s, seq1 C.nd lo, by omega, rfl, HATr.out, HSI.out, HSQ5.out, (seq1_dn HOO.out).ok, rfl, HSQP.out, hf0z, rfl⟩
              case round =>
                clear HSQP hf0z hfz
                obtain ⟨k, s, S, hk, rfl, hat, hsi, hsq, hso, hslo, hsp, hfw, hmm⟩ := hrel
                have HM5 := hide hmm
                have HATk := hide hat
                have HSIk := hide hsi
                have HSQk := hide hsq
                have HSP := hide hsp
                have HSLO := hide hslo
                have HSOK := hide hso
                clear hmm hat hsi hsq hsp hslo hso HATr HSI HSQ5
                by_cases hkn : k < 8 * C.nd
                · have hki : (k : Int) < 8 * (C.nd : Int) := by omega
                  have hn0 : 0 < C.nd := by omega
                  have hw8 : IntKind.i64.wrap (8 * (C.nd : Int)) = 8 * (C.nd : Int) := by simp [IntKind.wrap, IntKind.signed, IntKind.bits]; omega
                  have g0 : decide ((k : Int) < 8 * (C.nd : Int)) = true := decide_eq_true hki
                  go_wp2_with fail
                  refine (asleep_any HSQk.out).mono ?_
                  rintro e w9 ⟨rfl, rfl⟩
                  go_upto_if 117 with (fail)
                  go_cut [] (fun wx => SuCut w C T ds' b lo k s wx)
                  case first =>
                    by_cases h4 : k = 4 * C.nd
                    · have hdn := HSP.out.1 (by omega)
                      have has : S.asleep = true := by rw [hdn.asleep, List.length_range]; exact decide_eq_true h4
                      rw [has]
                      subst h4
                      have HST4 := hide (su_asleep HSIk.out hn0)
                      have HZ : Hid (∀ j, j < C.n → s.r.cnt j = 0) := hide (fun j hj => by
                        obtain ⟨rk, hr, hkk⟩ := HB.out.rank
                        exact all4_zero HSIk.out.inv HST4.out hr hkk hj)
                      have HWK := hide (wake_un hdn HSLO.out)
                      clear hdn has
                      obtain ⟨wk, hwk⟩ : ∃ wk, wk = wr := ⟨_, rfl⟩
                      subst hwk
                      go_wp2
                      go_loopg [19] C.nd (fun m v wz => HiR3 wk C.nd m v wz)
                      case atStart => exact ⟨0, by omega, rfl, Fr.refl _ _, rfl⟩
                      case round =>
                        obtain ⟨q, hq, rfl, hfq, hmm⟩ := hrel
                        have HMq := hide hmm
                        clear hmm
                        by_cases hqn : q < C.nd
                        · have hqi : (q : Int) < (C.nd : Int) := by omega
                          have hst : stI C s (q : Int) = 4 := by rw [stI, if_pos ⟨by omega, hqi⟩, Int.toNat_natCast, HST4.out q hqn]; rfl
                          have HST := hide hst
                          clear hst
                          go_wp2_with fail
                          refine (tstate_any (HATk.out.fr0 hfq) (q : Int)).mono ?_
                          rintro e w9 ⟨rfl, rfl⟩
                          rw [HST.out]
                          go_wp2
                          go_roundg (C.nd - (q + 1))
                          case measure => rw [HMq.out]; omega
                          case rel => exact ⟨q + 1, by omega, by go_num, hfq, rfl⟩
                        · have hqi : ¬ (q : Int) < (C.nd : Int) := by omega
                          obtain ⟨wq, hwq⟩ : ∃ wq, wq = wr := ⟨_, rfl⟩
                          subst hwq
                          go_wp2
                          go_loopg [20] C.n (fun m v wz => HiR3 wq C.n m v wz)
                          case atStart => exact ⟨0, by omega, rfl, Fr.refl _ _, rfl⟩
                          case round =>
                            obtain ⟨j, hj, rfl, hfj, hmm⟩ := hrel
                            have HMj := hide hmm
                            clear hmm
                            by_cases hjn : j < C.n
                            · have hji : (j : Int) < (C.n : Int) := by omega
                              have hct : cntI T.pr s.r (j : Int) = 0 := by rw [cntI, HATk.out.pn, if_pos ⟨by omega, hji⟩, Int.toNat_natCast, HZ.out j hjn]
                              have HCT := hide hct
                              clear hct
                              go_wp2_with fail
                              refine (tcount_any ((HATk.out.fr0 hfq).fr0 hfj) (j : Int)).mono ?_
                              rintro e w9 ⟨rfl, rfl⟩
                              rw [HCT.out]
                              go_wp2
                              go_roundg (C.n - (j + 1))
                              case measure => rw [HMj.out]; omega
                              case rel => exact ⟨j + 1, by omega, by go_num, hfj, rfl⟩
                            · have hji : ¬ (j : Int) < (C.n : Int) := by omega
                              go_wp2_with fail
                              refine (wake_any ((HSQk.out.fr0 hfq).fr0 hfj) HSOK.out.ord).mono ?_
                              rintro e w9 ⟨rfl, hsq9, hf9⟩
                              rw [HWK.out.1]
                              have HSQ9 := hide hsq9
                              have HAT9 := hide (((HATk.out.fr0 hfq).fr0 hfj).other HLT.out hf9 hb0)
                              have hfe := fr_b ((hfw.call hfq).call hfj) hf9 hwb
                              clear hsq9
                              go_wp2
                              go_meet
                              exact ⟨_, HAT9.out, HSQ9.out, mid_un (by simpa using HWK.out.2.1) HWK.out.2.2 (Nat.le_refl _) hkn, hfe⟩
                    · have has : S.asleep = false := by
                        by_cases h5 : k ≤ 4 * C.nd
                        · rw [(HSP.out.1 h5).asleep, List.length_range]
                          exact decide_eq_false h4
                        · exact (HSP.out.2 (by omega)).asleep
                      rw [has]
                      have HMD : Hid (SuMid S C.nd k lo) := hide (by
                        by_cases h5 : k ≤ 4 * C.nd
                        · exact mid_dn (HSP.out.1 h5) HSLO.out (by omega)
                        · exact mid_un (HSP.out.2 (by omega)) HSLO.out (by omega) hkn)
                      clear has h4
                      go_wp2
                      go_meet
                      exact ⟨S, HATk.out, HSQk.out, HMD.out, hfw⟩
                  case rest =>
                    obtain ⟨S1, hat1, hsq1, hmid, hfx⟩ := hcut
                    have HAT1 := hide hat1
                    have HSQ1 := hide hsq1
                    have HMID := hide hmid
                    have hnx := hmid.next
                    have HNX := hide hnx
                    clear hat1 hsq1 hmid HATk HSQk HSP HSLO HSOK hnx
                    go_wp2_with fail
                    refine (next_any HSQ1.out HMID.out.ok).mono ?_
                    rintro e w9 ⟨rfl, hf9⟩
                    rw [HNX.out]
                    dsimp only
                    have hph : (opAt (List.range C.nd) k).1 = k / C.nd + 1 := by unfold opAt; rw [List.length_range]
                    have HOFF : Hid (k / C.nd = 2 → _) := hide (fun h => su_off HOK.out HSIk.out hn0 hnd6 h hkn)
                    have HON : Hid (k / C.nd = 5 → _) := hide (fun h => su_on HOK.out HSIk.out hn0 hnd6 h)
                    have HSK : Hid (¬ k / C.nd = 2 → ¬ k / C.nd = 5 → _) := hide (fun h1 h2 => su_skip HSIk.out hn0 h1 h2)
                    have HAT2 := hide (HAT1.out.fr0 hf9)
                    have HSQ2 := hide (HSQ1.out.fr0 hf9)
                    have hf09 := hfx.call hf9
                    generalize opAt (List.range C.nd) k = x at hph HOFF HON ⊢
                    obtain ⟨ph, dv⟩ := x
                    simp only at hph HOFF HON ⊢
                    have hwk : IntKind.u64.wrap (k : Int) = (k : Int) := by rw [IntKind.wrap_u64]; omega
                    clear HNX hf9 HAT1 HSQ1 hfx
                    by_cases h2 : k / C.nd = 2
                    · obtain ⟨o1, o2, o3, o4⟩ := HOFF.out h2
                      have HST : Hid ((setM C k (dv : Int) 4 s).2.2 = 0 ∧ SuI C (k + 1) (setM C k (dv : Int) 4 s).1) := hide ⟨o3, o4⟩
                      have hp3 : ph = 3 := o1
                      subst hp3
                      clear o1 o2 o3 o4 hph h2 HOFF HON HSK
                      go_wp2_with fail
                      refine (tset_any (HAT2.out.fr0 ((Fr.refl [] _).alloc _)) HOK.out HSIk.out.inv (dv : Int) 4 k).mono ?_
                      rintro e w6 ⟨v6, rfl, hat6, hown6, hf6⟩
                      obtain ⟨A6, c6, rfl, -, -, -⟩ := own_slice hown6
                      obtain ⟨q1, q3⟩ := HST.out
                      generalize setM C k (dv : Int) 4 s = r at hat6 q1 q3 hown6 ⊢
                      rw [q1]
                      have HAT6 := hide hat6
                      have HSI6 := hide q3
                      have HSQ6 := hide ((HSQ2.out.fr0 ((Fr.refl [] _).alloc _)).frLo hf6 (fun hm => (HWB.out b hm).2 rfl) (fun g hg => by rw [HMID.out.low]; exact (HWB.out g hg).1))
                      have hf06 : Fr [] w w6 := (hf09.alloc _).step hf6 (fun y hy => .inr (HB.out.new y hy).1)
                      clear hat6 hown6 q1 q3 HST HSQ2 HAT2 hf09
                      go_wp2_with fail
                      refine (complete_any 0 HSQ6.out HMID.out.ok).mono ?_
                      rintro e w8 ⟨rfl, hsq8, hf8⟩
                      rw [HMID.out.cmp.1]
                      have HSQ8 := hide hsq8
                      have HAT8 := hide (HAT6.out.other HLT.out hf8 hb0)
                      have hf0e := fr_b hf06 hf8 hwb
                      clear hsq8
                      go_wp2
                      go_roundg (8 * C.nd - (k + 1))
                      case measure => rw [HM5.out]; omega
                      case rel => exact ⟨k + 1, _, _, by omega, by go_num, HAT8.out, HSI6.out, HSQ8.out, HMID.out.cmp.2.1, HMID.out.cmp.2.2.1, HMID.out.cmp.2.2.2, hf0e, rfl⟩
                    · by_cases h5 : k / C.nd = 5
                      · obtain ⟨o1, o2, o3, o4⟩ := HON.out h5
                        have HST : Hid ((setM C k (dv : Int) 0 s).2.2 = 0 ∧ SuI C (k + 1) (setM C k (dv : Int) 0 s).1) := hide ⟨o3, o4⟩
                        have hp6 : ph = 6 := o1
                        subst hp6
                        clear o1 o2 o3 o4 hph h2 h5 HOFF HON HSK
                        go_wp2_with fail
                        refine (tset_any (HAT2.out.fr0 ((Fr.refl [] _).alloc _)) HOK.out HSIk.out.inv (dv : Int) 0 k).mono ?_
                        rintro e w6 ⟨v6, rfl, hat6, hown6, hf6⟩
                        obtain ⟨A6, c6, rfl, -, -, -⟩ := own_slice hown6
                        obtain ⟨q1, q3⟩ := HST.out
                        generalize setM C k (dv : Int) 0 s = r at hat6 q1 q3 hown6 ⊢
                        rw [q1]
                        have HAT6 := hide hat6
                        have HSI6 := hide q3
                        have HSQ6 := hide ((HSQ2.out.fr0 ((Fr.refl [] _).alloc _)).frLo hf6 (fun hm => (HWB.out b hm).2 rfl) (fun g hg => by rw [HMID.out.low]; exact (HWB.out g hg).1))
                        have hf06 : Fr [] w w6 := (hf09.alloc _).step hf6 (fun y hy => .inr (HB.out.new y hy).1)
                        clear hat6 hown6 q1 q3 HST HSQ2 HAT2 hf09
                        go_wp2_with fail
                        refine (complete_any 0 HSQ6.out HMID.out.ok).mono ?_
                        rintro e w8 ⟨rfl, hsq8, hf8⟩
                        rw [HMID.out.cmp.1]
                        have HSQ8 := hide hsq8
                        have HAT8 := hide (HAT6.out.other HLT.out hf8 hb0)
                        have hf0e := fr_b hf06 hf8 hwb
                        clear hsq8
                        go_wp2
                        go_roundg (8 * C.nd - (k + 1))
                        case measure => rw [HM5.out]; omega
                        case rel => exact ⟨k + 1, _, _, by omega, by go_num, HAT8.out, HSI6.out, HSQ8.out, HMID.out.cmp.2.1, HMID.out.cmp.2.2.1, HMID.out.cmp.2.2.2, hf0e, rfl⟩
                      · have HSI6 := hide (HSK.out h2 h5)
                        have hal : Fr [] w9 (w9.alloc (.cells #[.int .i64 (ph : Int), .int .i64 (dv : Int)] 69)) := (Fr.refl _ _).alloc _
                        have HAT6 := hide (HAT2.out.fr0 hal)
                        have HSQ6 := hide (HSQ2.out.fr0 hal)
                        have hf06 := hf09.call hal
                        have g3 : ((ph : Int) == 3) = false := by rw [beq_eq_false_iff_ne]; omega
                        have g6 : ((ph : Int) == 6) = false := by rw [beq_eq_false_iff_ne]; omega
                        clear hph h2 h5 HOFF HON HSK HSQ2 HAT2 hf09 hal
                        go_wp2_with fail
                        refine (complete_any 0 HSQ6.out HMID.out.ok).mono ?_
                        rintro e w8 ⟨rfl, hsq8, hf8⟩
                        rw [HMID.out.cmp.1]
                        have HSQ8 := hide hsq8
                        have HAT8 := hide (HAT6.out.other HLT.out hf8 hb0)
                        have hf0e := fr_b hf06 hf8 hwb
                        clear hsq8
                        go_wp2
                        go_roundg (8 * C.nd - (k + 1))
                        case measure => rw [HM5.out]; omega
                        case rel => exact ⟨k + 1, _, _, by omega, by go_num, HAT8.out, HSI6.out, HSQ8.out, HMID.out.cmp.2.1, HMID.out.cmp.2.2.1, HMID.out.cmp.2.2.2, hf0e, rfl⟩
                · have hke : k = 8 * C.nd := by omega
                  subst hke
                  have g0 : decide (((8 * C.nd : Nat) : Int) < 8 * (C.nd : Int)) = false := decide_eq_false (by omega)
                  have hw8 : IntKind.i64.wrap (8 * (C.nd : Int)) = 8 * (C.nd : Int) := by simp [IntKind.wrap, IntKind.signed, IntKind.bits]; omega
                  have HST0 := hide (su_end HSIk.out)
                  obtain ⟨wk, hwk⟩ : ∃ wk, wk = wr := ⟨_, rfl⟩
                  subst hwk
                  go_wp2
                  go_loopg [24] C.nd (fun m v wz => HiR3 wk C.nd m v wz)
                  case atStart => exact ⟨0, by omega, rfl, Fr.refl _ _, rfl⟩
                  case round =>
                    obtain ⟨q, hq, rfl, hfq, hmm⟩ := hrel
                    have HMq := hide hmm
                    clear hmm
                    by_cases hqn : q < C.nd
                    · have hqi : (q : Int) < (C.nd : Int) := by omega
                      have hst : stI C s (q : Int) = 0 := by rw [stI, if_pos ⟨by omega, hqi⟩, Int.toNat_natCast, HST0.out q hqn]; rfl
                      have HST := hide hst
                      clear hst
                      go_wp2_with fail
                      refine (tstate_any (HATk.out.fr0 hfq) (q : Int)).mono ?_
                      rintro e w9 ⟨rfl, rfl⟩
                      rw [HST.out]
                      go_wp2
                      go_roundg (C.nd - (q + 1))
                      case measure => rw [HMq.out]; omega
                      case rel => exact ⟨q + 1, by omega, by go_num, hfq, rfl⟩
                    · have hqi : ¬ (q : Int) < (C.nd : Int) := by omega
                      go_wp2_with fail
                      refine (awake30_any wr).mono ?_
                      rintro e w9 ⟨rfl, hf9⟩
                      go_wp2
                      go_ret
                      exact ⟨rfl, (hfw.call hfq).call hf9⟩
end Go.Proofs.Ytdocdgghphhdpaa

