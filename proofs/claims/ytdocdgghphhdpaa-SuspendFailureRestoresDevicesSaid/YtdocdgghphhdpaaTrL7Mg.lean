/- The law SuspendFailureRestoresDevices, walked. -/
import Derived.Test.YtdocdgghphhdpaaTrL2Mg
import Derived.Test.YtdocdgghphhdpaaMgSuspFail18
import Derived.Test.YtdocdgghphhdpaaSuP6Mg
import Derived.Test.YtdocdgghphhdpaaMgSuspFail23
import Derived.Test.YtdocdgghphhdpaaMgSuspFail11
namespace Go.Proofs.Ytdocdgghphhdpaa
open Go.RowKit

def RwO (w : World) (raw : List DV) (m : Nat) (v9 : Value) (wr : World) : Prop := ∃ k : Nat, k ≤ raw.length ∧ v9 = .int .i64 (k : Int) ∧ (∀ x ∈ raw.take k, ∀ q, q < 4 → (x.rl q).length ≤ 20) ∧ w = wr ∧ m = raw.length - k
def RwI (w : World) (x : DV) (m : Nat) (v10 : Value) (wr : World) : Prop := ∃ q : Nat, q ≤ 4 ∧ v10 = .int .i64 (q : Int) ∧ (∀ p, p < q → (x.rl p).length ≤ 20) ∧ w = wr ∧ m = 4 - q
def RsL (w2 : World) (C : TC) (m : Nat) (v14 v15 : Value) (wr : World) : Prop :=
  ∃ k : Nat, k ≤ C.nd ∧ v15 = .int .i64 (k : Int) ∧ wr.ownsRow w2.heap.size 76 2 v14 (rlLinks (parR C) k).length (pcs (rlLinks (parR C) k)) ∧ Fr [] w2 wr ∧ m = C.nd - k
theorem Row.natv {w : World} {A : Option Addr} {L : List Nat} (hr : Row w A (L.map nv)) {i p : Nat} (h : L[i]? = some p) : ∃ ob oo, A = some ⟨ob, oo, none⟩ ∧ w.cell? ⟨ob, oo + i, none⟩ = some (.int .i64 (p : Int)) := by
  obtain ⟨ob, oo, e, hc⟩ := hr (by have := (List.getElem?_eq_some_iff.1 h).1; rw [List.length_map]; omega)
  exact ⟨ob, oo, e, hc i _ (by simp [h])⟩
def SuR4 (w5 : World) (C : TC) (T : TP) (ds : List DV) (m : Nat) (v15 : Value) (wr : World) : Prop :=
  ∃ (i : Nat) (s : TSt), i ≤ C.nd ∧ v15 = .int .i64 (i : Int) ∧ TrAt wr T ds C s ∧ SuJ C i s ∧ Fr T.wr w5 wr ∧ m = C.nd - i
def seq1 (n lo : Nat) : Seq := { ord := List.range n, st := if n = 0 then 2 else 1, ph := 1, po := 0, sc := fun _ => false, rs := 0, lo := lo }
theorem seq1_dn {n lo : Nat} (ho : OkOrd (List.range n)) : Dn (seq1 n lo) (List.range n) 0 := by
  have h := Dn.init ho
  have e : ∀ n, (seq0 (List.range n)) = { seq1 n 0 with lo := 0 } := fun n => by simp [seq0, seq1]
  rw [e] at h
  exact ⟨⟨h.ok.1, h.ok.2, h.ok.3, h.ok.4⟩, h.ord, h.sc, h.st, h.rs⟩
def SfR5 (w : World) (C : TC) (T : TP) (ds : List DV) (b lo : Nat) (m : Nat) (v25 : Value) (wr : World) : Prop :=
  ∃ (i : Nat) (s : TSt) (S : Seq), i ≤ 8 * C.nd ∧ v25 = .int .i64 (i : Int) ∧ TrAt wr T ds C s ∧ TInv C s ∧ s.clk ≤ i ∧ SeqAt wr b S ∧ S.lo = lo ∧ SfMode C.nd i S s.st ∧ Fr [] w wr ∧ m = 8 * C.nd + 1 - i
def SfMid (n i : Nat) (S : Seq) (st : Nat → Nat) : Prop :=
  (i < 4 * n ∧ Dn S (List.range n) i ∧ ∀ p, p < n → st p = if (2, p) ∈ goodK (List.range n) i then 4 else 0) ∨
  (∃ L c, Un S L c ∧ L.length + i ≤ 8 * n ∧ Asc7 L ∧ (∀ x ∈ L, 5 ≤ x.1 ∧ x.2 < n) ∧ ∀ p, p < n → st p = if (7, p) ∈ L then 4 else 0)
def SfCut (w : World) (C : TC) (T : TP) (ds : List DV) (b lo i : Nat) (s : TSt) (wx : World) : Prop :=
  ∃ S1 : Seq, TrAt wx T ds C s ∧ SeqAt wx b S1 ∧ S1.Ok ∧ S1.lo = lo ∧ SfMid C.nd i S1 s.st ∧ Fr [] w wx
theorem fr_b {w w1 w2 : World} {b : Nat} (h : Fr [] w w1) (k : Fr [b] w1 w2) (hb : w.heap.size ≤ b) : Fr [] w w2 := h.step k (fun y hy => .inr (by rw [List.mem_singleton.1 hy]; exact hb))
theorem TrAt.other {w w' : World} {T : TP} {ds : List DV} {C : TC} {s : TSt} {b lo : Nat} (h : TrAt w T ds C s) (hl : TrLow T ds lo) (k : Fr [b] w w') (hb : lo ≤ b) : TrAt w' T ds C s := h.frGe hl k (fun y hy => by rw [List.mem_singleton.1 hy]; exact hb)
set_option maxHeartbeats 16000000 in
set_option maxRecDepth 100000 in
theorem suspFail_any (A0 : Option Addr) (cp0 : Nat) (raw : List DV) (A1 : Option Addr) (cp1 : Nat) (rls : List RailD) (where_ code : Int) (w : World) (hr0 : Row w A0 (dvcs raw)) (hw0 : ∀ x ∈ raw, DvWf w x) (hm0 : raw.length ≤ maxLen) (hr1 : Row w A1 (rls.flatMap rlc)) (hm1 : rls.length ≤ maxLen) :
    Calls Try.prog 9 #[.slice A0 raw.length cp0, .slice A1 rls.length cp1, .int .i64 where_, .int .i64 code] w fun e w' => e = .returned (.bool true) ∧ Fr [] w w' := by
  have HDV : Hid (DvsAt w A0 raw) := hide ⟨hr0, fun x hx => (hw0 x hx).1⟩
  have HW := hide hw0
  have HML := hide hm0
  have HR1 : Hid (Row w A1 (rlcs (fun i => rls.getD i ⟨0, 0, 0⟩) rls.length)) := hide (by rw [rlcs_list rls _ (fun i x h => by simp [List.getD, h])]; exact hr1)
  obtain ⟨i0, hi0, hz0, hz1, hz2⟩ := info_parts link_info4
  have HI := hide (And.intro hi0 (And.intro hz0 (And.intro hz1 hz2)))
  unfold maxLen at hm0 hm1
  clear hr0 hw0 hr1 hi0 hz0 hz1 hz2
  by_cases h20 : 20 < raw.length
  · have b1 : decide ((20 : Int) < (raw.length : Int)) = true := decide_eq_true (by omega)
    have b1n : decide (20 < raw.length) = true := decide_eq_true h20
    clear h20
    go_enter Try.func9, Try.ntmps9
    go_wp2_with fail
    refine (awake30_any w).mono ?_
    rintro e w7 ⟨rfl, hf7⟩
    go_wp2
    go_ret
    exact ⟨rfl, hf7⟩
  have b1 : decide ((20 : Int) < (raw.length : Int)) = false := decide_eq_false (by omega)
  have b1n : decide (20 < raw.length) = false := decide_eq_false h20
  by_cases h21 : 20 < rls.length
  · have b2 : decide ((20 : Int) < (rls.length : Int)) = true := decide_eq_true (by omega)
    have b2n : decide (20 < rls.length) = true := decide_eq_true h21
    clear h20 h21
    go_enter Try.func9, Try.ntmps9
    go_wp2_with fail
    refine (awake30_any w).mono ?_
    rintro e w7 ⟨rfl, hf7⟩
    go_wp2
    go_ret
    exact ⟨rfl, hf7⟩
  have b2 : decide ((20 : Int) < (rls.length : Int)) = false := decide_eq_false (by omega)
  have b2n : decide (20 < rls.length) = false := decide_eq_false h21
  go_enter Try.func9, Try.ntmps9
  go_wp2
  go_loopg [9] raw.length (fun m v9 wr => RwO w raw m v9 wr)
  case atStart => exact ⟨0, by omega, rfl, (fun x hx => by simp at hx), rfl, rfl⟩
  case round =>
    obtain ⟨k, hk, rfl, hall, rfl, hmm⟩ := hrel
    have HMO := hide hmm
    have HALL := hide hall
    clear hmm hall
    by_cases hkn : k < raw.length
    · have hki : (k : Int) < (raw.length : Int) := by omega
      obtain ⟨x, hx⟩ : ∃ x, raw[k]? = some x := ⟨_, List.getElem?_eq_getElem hkn⟩
      have HX := hide hx
      clear hx
      go_wp2
      go_loopg [10] 4 (fun m v10 wr => RwI w x m v10 wr)
      case atStart => exact ⟨0, by omega, rfl, (fun p hp => by omega), rfl, rfl⟩
      case round =>
        obtain ⟨q, hq, rfl, hal2, rfl, hmm⟩ := hrel
        have HMI := hide hmm
        have HAL2 := hide hal2
        clear hmm hal2
        by_cases hqn : q < 4
        · have hqi : (q : Int) < 4 := by omega
          obtain ⟨ob, oo, A', cp', rfl, cR, -⟩ := HDV.out.rail HX.out hqn
          by_cases h20 : 20 < (x.rl q).length
          · have g1 : decide ((20 : Int) < ((x.rl q).length : Int)) = true := decide_eq_true (by omega)
            have g1n : decide (20 < (x.rl q).length) = true := decide_eq_true h20
            clear h20
            go_wp2_with fail
            refine (awake30_any w).mono ?_
            rintro e w7 ⟨rfl, hf7⟩
            go_wp2
            go_ret
            exact ⟨rfl, hf7⟩
          · have g1 : decide ((20 : Int) < ((x.rl q).length : Int)) = false := decide_eq_false (by omega)
            have g1n : decide (20 < (x.rl q).length) = false := decide_eq_false h20
            have HQ : Hid (∀ p, p < q + 1 → (x.rl p).length ≤ 20) := hide (fun p hp => by
              by_cases e : p = q
              · subst e; omega
              · exact HAL2.out p (by omega))
            clear h20
            go_wp2
            go_roundg (4 - (q + 1))
            case measure => rw [HMI.out]; omega
            case rel => exact ⟨q + 1, by omega, by go_num, HQ.out, rfl, rfl⟩
        · have hqe : q = 4 := by omega
          subst hqe
          have HQ : Hid (∀ y ∈ raw.take (k + 1), ∀ q, q < 4 → (y.rl q).length ≤ 20) := hide (fun y hy q hq => by
            rw [take_succ_some HX.out, List.mem_append, List.mem_singleton] at hy
            rcases hy with hy | rfl
            · exact HALL.out y hy q hq
            · exact HAL2.out q hq)
          have hqi : ¬ (((4 : Nat) : Int)) < 4 := by omega
          go_wp2
          go_roundg (raw.length - (k + 1))
          case measure => rw [HMO.out]; omega
          case rel => exact ⟨k + 1, by omega, by go_num, HQ.out, rfl, rfl⟩
    · have hke : k = raw.length := by omega
      subst hke
      have hki : ¬ (raw.length : Int) < (raw.length : Int) := by omega
      have HLG : Hid (∀ x ∈ raw, ∀ k, (x.rl k).length ≤ 4096) := hide (fun x hx k => by
        by_cases h : k < 4
        · have := HALL.out x (by rw [List.take_length]; exact hx) k h
          omega
        · rw [(HW.out x hx).2.2 k (by omega)]
          simp)
      clear HALL HMO hki
      go_wp2_with fail
      refine (some25_any A1 cp1 rls.length _ w HR1.out (by omega)).mono ?_
      rintro e w1 ⟨v7, m, R, rk, rfl, hown7, hgood, hf1⟩
      obtain ⟨A7, c7, rfl, -, -, -⟩ := own_slice hown7
      have hn8 := hgood.n8
      have HOWN7 := hide hown7
      have HGOOD := hide hgood
      clear hown7 hgood
      go_wp2_with fail
      refine (some27_any A0 cp0 raw m w1 (HDV.out.fr0 hf1) HML.out (fun x hx k => Nat.le_trans (HLG.out x hx k) (by unfold maxLen; omega)) (by omega)).mono ?_
      rintro e w2 ⟨v8, out, rfl, hown8, hrl, hso, hf2⟩
      obtain ⟨A8, c8, rfl, -, hrow8, -⟩ := own_slice hown8
      obtain ⟨C, rfl, hnd, htie, hok, hcall⟩ := brd_new3 HOWN7.out HGOOD.out hf1 hown8 hrl hso hf2
      have hnd6 : out.length ≤ 6 := by rw [hso.1]; omega
      have HDV8 : Hid (DvsAt w2 A8 out) := hide ⟨hrow8, fun x hx => (hrl x hx).at_⟩
      have HTIE := hide htie
      have HND := hide hnd
      have HOK := hide hok
      rw [hnd] at hcall hnd6 ⊢
      have HCALL := hide hcall
      have hf02 := hf1.call hf2
      clear hcall hown8 hrl hso HOWN7 HGOOD hnd hrow8 htie hok hf1 hf2
      go_wp2
      go_loopg [13, 14] C.nd (fun m v14 v15 wr => RsL w2 C m v14 v15 wr)
      case atStart => exact ⟨0, by omega, rfl, own_nil _ _ _ _, Fr.refl _ _, rfl⟩
      case round =>
        obtain ⟨k, hk, rfl, hown, hfr, hmm⟩ := hrel
        obtain ⟨A14, c14, rfl, -, -, -⟩ := own_slice hown
        have HML2 := hide hmm
        have HOWN := hide hown
        have HLN := hide (show rlLinks (parR C) (k + 1) = if 0 ≤ C.par k then rlLinks (parR C) k ++ [((k : Int), C.par k)] else rlLinks (parR C) k from rfl)
        have hll := rlLinks_len (parR C) k
        clear hmm hown
        by_cases hkn : k < C.nd
        · have hki : (k : Int) < (C.nd : Int) := by omega
          obtain ⟨ob, oo, rfl, p0⟩ := (HDV8.out.fr0 hfr).par HND.out HTIE.out hkn
          generalize C.par k = pk at p0 HLN
          generalize hLk : rlLinks (parR C) k = L0 at HOWN HLN hll ⊢
          clear hLk
          have hsz := hfr.size
          by_cases h0 : 0 ≤ pk
          · have g0 : decide ((0 : Int) ≤ pk) = true := decide_eq_true h0
            have HL2 := HLN.out
            rw [if_pos h0] at HL2
            have HL3 := hide HL2
            clear HL2 HLN h0
            go_upto_region 16 with (first
              | (at_builtin
                 refine wpList_append_row _ rfl (.tmp 83) (.tmp 91) _ rfl w2.heap.size 76 i0 (.agg #[.int .i64 0, .int .i64 0]) 2 16 Try.underlying74 HI.out.1 HI.out.2.1 HI.out.2.2.1 HI.out.2.2.2 rfl (by omega) (.slice A14 L0.length c14) L0.length (pcs L0) rfl
                   (own_fr HOWN.out ((Fr.refl [] _).alloc _) (fun _ _ => by simp)) (some ⟨wr.heap.size, 0, none⟩) 1 1 [.int .i64 (k : Int), .int .i64 pk] rfl rfl (row_lit wr _ _ rfl) (by intro u hu; simp at hu; rcases hu with rfl | rfl <;> rfl) (by simp only [maxLen]; omega) (by omega) (by simp; omega) ?_
                 intro v3 w3 hown3 hg3 hat3))
            obtain ⟨A3, c3, rfl, -, -, -⟩ := own_slice hown3
            have hf03 : Fr [] w2 w3 := (hfr.alloc _).grown hg3 (fun y hy => .inr (own_block HOWN.out hy).1)
            have HOW3 := hide hown3
            clear hown3 hg3 hat3 p0
            go_wp2
            go_roundg (C.nd - (k + 1))
            case measure => rw [HML2.out]; omega
            case rel => exact ⟨k + 1, by omega, by go_num, by rw [HL3.out, pcs_snoc, List.length_append]; exact HOW3.out, hf03, rfl⟩
          · have g0 : decide ((0 : Int) ≤ pk) = false := decide_eq_false h0
            have HL2 := HLN.out
            rw [if_neg h0] at HL2
            have HL3 := hide HL2
            clear HL2 HLN h0
            go_wp2
            go_roundg (C.nd - (k + 1))
            case measure => rw [HML2.out]; omega
            case rel => exact ⟨k + 1, by omega, by go_num, by rw [HL3.out]; exact HOWN.out, hfr, rfl⟩
        · have hke : k = C.nd := by omega
          subst hke
          have hki : ¬ (C.nd : Int) < (C.nd : Int) := by omega
          obtain ⟨A14', c14', e14, -, hrow14, -⟩ := own_slice HOWN.out
          injection e14 with e14 _ e14c
          subst e14 e14c
          clear HLN
          have HROW := hide hrow14
          have hll5 := rlLinks_len (parR C) C.nd
          have hor := order_any24 (C.nd : Int) A14 c14 (rlLinks (parR C) C.nd) wr HROW.out (by omega)
          have hpo := par_order HOK.out
          unfold OrderRet at hor
          rw [hpo] at hor
          have HOR := hide hor
          clear hrow14 hor hpo HML2 HOWN hll hll5 HROW
          generalize (rlLinks (parR C) C.nd).length = ln at HOR ⊢
          go_wp2_with fail
          refine HOR.out.mono ?_
          rintro e w3 ⟨v15, rfl, hown15, hf13⟩
          obtain ⟨A15, c15, rfl, hnil15, hrow15, hbl15⟩ := own_slice hown15
          have HRO := hide hrow15
          have HBL := hide hbl15
          have HNIL := hide hnil15
          rw [List.length_range]
          have hf23 := hfr.call hf13
          clear hown15 hrow15 hbl15 hnil15 HOR
          go_wp2_with fail
          refine (HCALL.out w3 hf23).mono ?_
          rintro e w4 ⟨T, ds', rfl, hb, hf34, hwrb⟩
          have HB := hide hb
          have hnd6' := hb.nd6
          have hf04 := hb.fr
          have HWRB := hide hwrb
          clear hb HCALL hf02 hwrb
          have HRO4 : Hid (Row w4 A15 ((toInts (List.range C.nd)).map (Value.int .i64))) := hide (by rw [toInts_nv]; exact HRO.out.fr0 hf34)
          have hln : (toInts (List.range C.nd)).length = C.nd := by simp [toInts]
          have hnew := new_any A15 c15 (toInts (List.range C.nd)) w4 HRO4.out HNIL.out (by rw [hln]; omega)
          rw [hln] at hnew
          have HNEW := hide hnew
          have hgd : (toInts (List.range C.nd)).length ≤ 64 ∧ Good (toInts (List.range C.nd)) := ⟨by rw [hln]; omega, good_of_perm (by rw [List.length_range])⟩
          have HGD := hide hgd
          have HLN := hide hln
          clear hnew hgd hln
          go_wp2_with fail
          refine HNEW.out.mono ?_
          rintro e w5 (⟨hno, -, -⟩ | ⟨-, b, rfl, hbw, hsq, hf45⟩)
          · exact absurd HGD.out hno
          rw [toInts_toNat, HLN.out] at hsq
          have HSQ := hide hsq
          obtain ⟨lo, hloe⟩ : ∃ lo, lo = w4.heap.size := ⟨_, rfl⟩
          rw [← hloe] at HSQ hbw
          have HLOE := hide hloe
          have HAT5 := hide (HB.out.at_.fr0 hf45)
          have HROW5 := hide (HRO.out.fr0 (hf34.call hf45))
          clear hsq HNEW HGD HLN HNIL HRO4 hloe
          have HWB : Hid (∀ g ∈ T.wr, g < lo ∧ g ≠ b) := hide (fun g hg => by
            have := (HB.out.new g hg).2
            have := HLOE.out
            omega)
          have HOB : Hid (∀ ad, A15 = some ad → ad.block ∉ T.wr) := hide (fun ad e hm => by
            have := (HBL.out ad e).2
            have := HWRB.out _ hm
            omega)
          have hf05 := hf04.call hf45
          have hlo4 : w4.heap.size ≤ b := by have := HLOE.out; omega
          go_wp2
          go_loopg [21] C.nd (fun m v15 wz => SuR4 w5 C T ds' m v15 wz)
          case atStart => exact ⟨0, tsz, by omega, rfl, HAT5.out, suj_start C, Fr.refl _ _, rfl⟩
          case round =>
            obtain ⟨i, s, hi, rfl, hat, hsj, hfz, hmm⟩ := hrel
            have HM4 := hide hmm
            have HATr := hide hat
            have HSJ := hide hsj
            clear hmm hat hsj HAT5
            by_cases hin : i < C.nd
            · have hii : (i : Int) < (C.nd : Int) := by omega
              obtain ⟨o1, o2, rfl, e0⟩ := (row_out HROW5.out hfz HOB.out).natv (i := i) (p := i) (by rw [List.getElem?_range hin])
              have hst := suj_step HOK.out HSJ.out hin
              have HST := hide hst
              clear hst
              go_wp2_with fail
              refine (tset_any HATr.out HOK.out HSJ.out.inv (i : Int) 0 0).mono ?_
              rintro e w6 ⟨v6, rfl, hat6, hown6, hf6⟩
              obtain ⟨A6, c6, rfl, -, -, -⟩ := own_slice hown6
              obtain ⟨q1, q3⟩ := HST.out
              generalize setM C 0 (i : Int) 0 s = r at hat6 q1 q3 hown6 ⊢
              rw [q1]
              have HAT6 := hide hat6
              have HSJ6 := hide q3
              have hfz6 := hfz.trans hf6
              clear hat6 hown6 q1 q3 HST e0
              go_wp2
              go_roundg (C.nd - (i + 1))
              case measure => rw [HM4.out]; omega
              case rel => exact ⟨i + 1, r.1, by omega, by go_num, HAT6.out, HSJ6.out, hfz6, rfl⟩
            · have hie : i = C.nd := by omega
              subst hie
              have hii : ¬ (C.nd : Int) < (C.nd : Int) := by omega
              have HSI := hide (suj_done HSJ.out)
              have HSQ5 := hide (HSQ.out.frLo hfz (fun hm => (HWB.out b hm).2 rfl) (fun g hg => (HWB.out g hg).1))
              have hf0z : Fr [] w wr := hf05.step hfz (fun y hy => .inr (HB.out.new y hy).1)
              have HOO : Hid (OkOrd (List.range C.nd)) := hide (okOrd_id (by omega))
              have HLT : Hid (TrLow T ds' w4.heap.size) := hide HB.out.at_.low
              have hwb : w.heap.size ≤ b := by have := hf04.size; omega
              clear HSJ HSQ HBL HROW5 HRO
              have HMODE : Hid (SfMode C.nd 0 (seq1 C.nd lo) s.st) := hide (.inl ⟨by omega, seq1_dn HOO.out, fun p hp => by rw [HSI.out.st p hp, stS, if_pos (by omega)]; simp [goodK]⟩)
              have hw6 : IntKind.i64.wrap (6 * (C.nd : Int)) = 6 * (C.nd : Int) := by simp [IntKind.wrap, IntKind.signed, IntKind.bits]; omega
              have hw7 : IntKind.i64.wrap (6 * (C.nd : Int) + 1) = 6 * (C.nd : Int) + 1 := by simp [IntKind.wrap, IntKind.signed, IntKind.bits]; omega
              go_wp2_with fail
              refine (mod_int where_ (6 * (C.nd : Int) + 1) wr (by omega) (by omega)).mono ?_
              rintro e w9 ⟨rfl, rfl⟩
              generalize umod where_ (6 * (C.nd : Int) + 1).toNat = F
              clear hw6 hw7
              go_wp2
              go_loopg [25] (8 * C.nd + 1) (fun m v25 wz => SfR5 w C T ds' b lo m v25 wz)
              case atStart => exact ⟨0, s, seq1 C.nd lo, by omega, rfl, HATr.out, HSI.out.inv, HSI.out.clk, HSQ5.out, rfl, HMODE.out, hf0z, rfl⟩
              case round =>
                clear HMODE hf0z hfz
                obtain ⟨k, s, S, hk, rfl, hat, hinv, hclk, hsq, hslo, hmode, hfw, hmm⟩ := hrel
                have HM5 := hide hmm
                have HATk := hide hat
                have HINV := hide hinv
                have HSQk := hide hsq
                have HMO := hide hmode
                have HSLO := hide hslo
                clear hmm hat hinv hsq hmode hslo HATr HSI HSQ5
                have hki : (k : Int) ≤ 8 * (C.nd : Int) := by omega
                have hw8 : IntKind.i64.wrap (8 * (C.nd : Int)) = 8 * (C.nd : Int) := by simp [IntKind.wrap, IntKind.signed, IntKind.bits]; omega
                have g0 : decide ((k : Int) ≤ 8 * (C.nd : Int)) = true := decide_eq_true hki
                go_wp2_with fail
                refine (asleep_any HSQk.out).mono ?_
                rintro e w9 ⟨rfl, rfl⟩
                go_upto_if 160 with (fail)
                go_cut [] (fun wx => SfCut w C T ds' b lo k s wx)
                case first =>
                  rcases HMO.out with ⟨hk4, hdn, hst⟩ | ⟨L, c, hun, hll, has7, hxl, hst⟩
                  · have has : S.asleep = decide (k = 4 * C.nd) := by rw [hdn.asleep, List.length_range]
                    rw [has]
                    by_cases h4 : k = 4 * C.nd
                    · rw [decide_eq_true h4]
                      subst h4
                      have HZ : Hid (∀ j, j < C.n → s.r.cnt j = 0) := hide (fun j hj => by
                        obtain ⟨rk, hr, hkk⟩ := HB.out.rank
                        exact all4_zero HINV.out (fun p hp => by rw [hst p hp, if_pos (good_all (by omega) hp)]) hr hkk hj)
                      have hwk := hdn.wake List.nodup_range (by rw [List.length_range])
                      have HWK := hide hwk
                      have HMU : Hid (SfMode C.nd (4 * C.nd) S.wake.1 s.st) := hide (mode_undo (by omega) (Nat.le_refl _) (by omega) hwk.2 hst)
                      have HWLO : Hid (S.wake.1.lo = lo) := hide (by rw [wake_lo, HSLO.out])
                      have HOD := hide hdn.ok.ord
                      clear has hdn hst hwk HMO
                      obtain ⟨wk, hwk⟩ : ∃ wk, wk = wr := ⟨_, rfl⟩
                      subst hwk
                      go_wp2
                      go_loopg [26] C.n (fun m v wz => HiR3 wk C.n m v wz)
                      case atStart => exact ⟨0, by omega, rfl, Fr.refl _ _, rfl⟩
                      case round =>
                        obtain ⟨j, hj, rfl, hfj, hmm⟩ := hrel
                        have HMj := hide hmm
                        clear hmm
                        by_cases hjn : j < C.n
                        · have hji : (j : Int) < (C.n : Int) := by omega
                          have hct : cntI T.pr s.r (j : Int) = 0 := by rw [cntI, HATk.out.pn, if_pos ⟨by omega, hji⟩, Int.toNat_natCast, HZ.out j hjn]
                          have HCT := hide hct
                          clear hct
                          go_wp2_with fail
                          refine (tcount_any (HATk.out.fr0 hfj) (j : Int)).mono ?_
                          rintro e w9 ⟨rfl, rfl⟩
                          rw [HCT.out]
                          go_wp2
                          go_roundg (C.n - (j + 1))
                          case measure => rw [HMj.out]; omega
                          case rel => exact ⟨j + 1, by omega, by go_num, hfj, rfl⟩
                        · have hji : ¬ (j : Int) < (C.n : Int) := by omega
                          go_wp2_with fail
                          refine (wake_any (HSQk.out.fr0 hfj) HOD.out).mono ?_
                          rintro e w9 ⟨rfl, hsq9, hf9⟩
                          rw [HWK.out.1]
                          have HSQ9 := hide hsq9
                          have HAT9 := hide ((HATk.out.fr0 hfj).other HLT.out hf9 hlo4)
                          have hfe := fr_b (hfw.call hfj) hf9 hwb
                          clear hsq9
                          go_wp2
                          go_meet
                          refine ⟨_, HAT9.out, HSQ9.out, HWK.out.2.ok, HWLO.out, ?_, hfe⟩
                          rcases HMU.out with ⟨_, hd, _⟩ | h
                          · have h1 := HWK.out.2.st
                            rcases hd.st with ⟨_, h2, _⟩ | ⟨_, h2⟩ <;> omega
                          · exact .inr h
                    · rw [decide_eq_false h4]
                      have HMD : Hid (SfMid C.nd k S s.st) := hide (.inl ⟨by omega, hdn, hst⟩)
                      have HO2 := hide hdn.ok
                      clear has hdn hst h4
                      go_wp2
                      go_meet
                      exact ⟨S, HATk.out, HSQk.out, HO2.out, HSLO.out, HMD.out, hfw⟩
                  · rw [hun.asleep]
                    have HMD : Hid (SfMid C.nd k S s.st) := hide (.inr ⟨L, c, hun, hll, has7, hxl, hst⟩)
                    have HO2 := hide hun.ok
                    clear hun hll has7 hxl hst
                    go_wp2
                    go_meet
                    exact ⟨S, HATk.out, HSQk.out, HO2.out, HSLO.out, HMD.out, hfw⟩
                case rest =>
                  obtain ⟨S1, hat1, hsq1, hok1, hlo1, hmid, hfx⟩ := hcut
                  have HAT1 := hide hat1
                  have HSQ1 := hide hsq1
                  have HOK1 := hide hok1
                  have HLO1 := hide hlo1
                  clear hat1 hsq1 hok1 hlo1 HATk HSQk HMO HSLO hw8 g0
                  have hwk : IntKind.u64.wrap (k : Int) = (k : Int) := by rw [IntKind.wrap_u64]; omega
                  rcases hmid with ⟨hk4, hdn, hst⟩ | ⟨L, c, hun, hll, has7, hxl, hst⟩
                  · have hcs := hk4
                    have hn0 : 0 < C.nd := by omega
                    have HNX := hide (hdn.next (by rw [List.length_range]; exact hk4))
                    have hph : (opAt (List.range C.nd) k).1 = k / C.nd + 1 := by unfold opAt; rw [List.length_range]
                    have hph4 : (opAt (List.range C.nd) k).1 ≤ 4 := by
                      rw [hph]
                      have : k / C.nd < 4 := by rw [Nat.div_lt_iff_lt_mul hn0]; exact hk4
                      omega
                    have HDN := hide hdn
                    have HSTT := hide hst
                    clear hdn hst hph
                    go_wp2_with fail
                    refine (next_any HSQ1.out HOK1.out).mono ?_
                    rintro e w9 ⟨rfl, hf9⟩
                    rw [HNX.out]
                    dsimp only
                    have HAT2 := hide (HAT1.out.fr0 hf9)
                    have HSQ2 := hide (HSQ1.out.fr0 hf9)
                    have hf09 := hfx.call hf9
                    clear HNX hf9 HAT1 HSQ1 hfx
                    have HOFF : Hid ((opAt (List.range C.nd) k).1 = 2 → _) := hide (fun h => sf_off HOK.out HINV.out hclk hnd6 hk4 HSTT.out h)
                    have HSAM : Hid (¬ (opAt (List.range C.nd) k).1 = 2 → _) := hide (fun h => sf_same hk4 HSTT.out h)
                    generalize opAt (List.range C.nd) k = x at hph4 HOFF HSAM ⊢
                    obtain ⟨ph, dv⟩ := x
                    simp only at hph4 HOFF HSAM ⊢
                    have g7 : ((ph : Int) == 7) = false := by rw [beq_eq_false_iff_ne]; omega
                    have g4 : decide ((ph : Int) ≤ 4) = true := decide_eq_true (by omega)
                    have g4n : decide (ph ≤ 4) = true := decide_eq_true hph4
                    by_cases hF : k = F ∧ code ≠ 0
                    · have bF : ((k : Int) == (F : Int)) = true := by rw [beq_iff_eq]; omega
                      have bc : (code == 0) = false := beq_eq_false_iff_ne.2 hF.2
                      have hfl := HDN.out.fail List.nodup_range (by rw [List.length_range]; exact hk4) hF.2
                      have HCM : Hid ((S1.complete code).2 = 0 ∧ SfMode C.nd (k + 1) (S1.complete code).1 s.st) := hide ⟨hfl.1, mode_undo (by omega) (by omega) (by omega) hfl.2 HSTT.out⟩
                      have h2c : ((ph : Int) == 2) = false ∨ ((ph : Int) == 2) = true := by cases ((ph : Int) == 2) <;> simp
                      clear hF hfl HDN HSTT HOFF HSAM
                      rcases h2c with b2 | b2
                      all_goals
                        have hal : Fr [] w9 (w9.alloc (.cells #[.int .i64 (ph : Int), .int .i64 (dv : Int)] 69)) := (Fr.refl _ _).alloc _
                        have HAT6 := hide (HAT2.out.fr0 hal)
                        have HSQ6 := hide (HSQ2.out.fr0 hal)
                        have HIV6 := HINV
                        have HCK6 : Hid (s.clk ≤ k + 1) := hide (Nat.le_succ_of_le hclk)
                        have hf06 := hf09.call hal
                        clear HSQ2 HAT2 hf09 hal
                        go_wp2_with fail
                        refine (complete_any code HSQ6.out HOK1.out).mono ?_
                        rintro e w8 ⟨rfl, hsq8, hf8⟩
                        rw [HCM.out.1]
                        have HSQ8 := hide hsq8
                        have HAT8 := hide (HAT6.out.other HLT.out hf8 hlo4)
                        have hf0e := fr_b hf06 hf8 hwb
                        clear hsq8
                        go_wp2
                        go_roundg (8 * C.nd + 1 - (k + 1))
                        case measure => rw [HM5.out]; omega
                        case rel => exact ⟨k + 1, _, _, by omega, by go_num, HAT8.out, HIV6.out, HCK6.out, HSQ8.out, by rw [complete_lo, HLO1.out], HCM.out.2, hf0e, rfl⟩
                    · have hstp := HDN.out.step (by rw [List.length_range]; exact hk4)
                      have HSTP := hide hstp
                      have hFc : ((k : Int) == (F : Int)) = false ∨ (((k : Int) == (F : Int)) = true ∧ code = 0) := by
                        by_cases h : k = F
                        · refine .inr ⟨by rw [beq_iff_eq]; omega, ?_⟩
                          exact Decidable.byContradiction (fun hc => hF ⟨h, hc⟩)
                        · exact .inl (by rw [beq_eq_false_iff_ne]; omega)
                      clear hF hstp HDN
                      rcases hFc with bF | ⟨bF, rfl⟩
                      all_goals
                        by_cases hp2 : ph = 2
                        · obtain ⟨o0, o1, o2, o3, o4⟩ := HOFF.out hp2
                          subst hp2
                          have HST : Hid ((setM C k (dv : Int) 4 s).2.2 = 0 ∧ TInv C (setM C k (dv : Int) 4 s).1 ∧ (setM C k (dv : Int) 4 s).1.clk ≤ k) := hide ⟨o1, o2, o3⟩
                          have HCM : Hid ((S1.complete 0).2 = 0 ∧ SfMode C.nd (k + 1) (S1.complete 0).1 (setM C k (dv : Int) 4 s).1.st) := hide ⟨by rw [HSTP.out.1], .inl ⟨by omega, by rw [HSTP.out.1]; exact HSTP.out.2, o4⟩⟩
                          clear o0 o1 o2 o3 o4 HSTP HSTT HOFF HSAM g7 g4 g4n
                          go_wp2_with fail
                          refine (tset_any (HAT2.out.fr0 ((Fr.refl [] _).alloc _)) HOK.out HINV.out (dv : Int) 4 k).mono ?_
                          rintro e w6 ⟨v6, rfl, hat6, hown6, hf6⟩
                          obtain ⟨A6, c6, rfl, -, -, -⟩ := own_slice hown6
                          obtain ⟨q1, q2, q3⟩ := HST.out
                          generalize setM C k (dv : Int) 4 s = r at hat6 q1 q2 q3 HCM hown6 ⊢
                          rw [q1]
                          have HAT6 := hide hat6
                          have HIV6 := hide q2
                          have HCK6 : Hid (r.1.clk ≤ k + 1) := hide (Nat.le_succ_of_le q3)
                          have HSQ6 := hide ((HSQ2.out.fr0 ((Fr.refl [] _).alloc _)).frLo hf6 (fun hm => (HWB.out b hm).2 rfl) (fun g hg => by rw [HLO1.out]; exact (HWB.out g hg).1))
                          have hf06 : Fr [] w w6 := (hf09.alloc _).step hf6 (fun y hy => .inr (HB.out.new y hy).1)
                          clear hat6 hown6 q1 q2 q3 HST HSQ2 HAT2 hf09
                          go_wp2_with fail
                          refine (complete_any 0 HSQ6.out HOK1.out).mono ?_
                          rintro e w8 ⟨rfl, hsq8, hf8⟩
                          rw [HCM.out.1]
                          have HSQ8 := hide hsq8
                          have HAT8 := hide (HAT6.out.other HLT.out hf8 hlo4)
                          have hf0e := fr_b hf06 hf8 hwb
                          clear hsq8
                          go_wp2
                          go_roundg (8 * C.nd + 1 - (k + 1))
                          case measure => rw [HM5.out]; omega
                          case rel => exact ⟨k + 1, _, _, by omega, by go_num, HAT8.out, HIV6.out, HCK6.out, HSQ8.out, by rw [complete_lo, HLO1.out], HCM.out.2, hf0e, rfl⟩
                        · have g2 : ((ph : Int) == 2) = false := by rw [beq_eq_false_iff_ne]; omega
                          have HCM : Hid ((S1.complete 0).2 = 0 ∧ SfMode C.nd (k + 1) (S1.complete 0).1 s.st) := hide ⟨by rw [HSTP.out.1], .inl ⟨by omega, by rw [HSTP.out.1]; exact HSTP.out.2, HSAM.out hp2⟩⟩
                          clear hp2 HSTP HSTT HOFF HSAM
                          have hal : Fr [] w9 (w9.alloc (.cells #[.int .i64 (ph : Int), .int .i64 (dv : Int)] 69)) := (Fr.refl _ _).alloc _
                          have HAT6 := hide (HAT2.out.fr0 hal)
                          have HSQ6 := hide (HSQ2.out.fr0 hal)
                          have HIV6 := HINV
                          have HCK6 : Hid (s.clk ≤ k + 1) := hide (Nat.le_succ_of_le hclk)
                          have hf06 := hf09.call hal
                          clear HSQ2 HAT2 hf09 hal
                          go_wp2_with fail
                          refine (complete_any 0 HSQ6.out HOK1.out).mono ?_
                          rintro e w8 ⟨rfl, hsq8, hf8⟩
                          rw [HCM.out.1]
                          have HSQ8 := hide hsq8
                          have HAT8 := hide (HAT6.out.other HLT.out hf8 hlo4)
                          have hf0e := fr_b hf06 hf8 hwb
                          clear hsq8
                          go_wp2
                          go_roundg (8 * C.nd + 1 - (k + 1))
                          case measure => rw [HM5.out]; omega
                          case rel => exact ⟨k + 1, _, _, by omega, by go_num, HAT8.out, HIV6.out, HCK6.out, HSQ8.out, by rw [complete_lo, HLO1.out], HCM.out.2, hf0e, rfl⟩
                  · cases L with
                    | nil =>
                      have hn0 := hun.next0
                      have hr0 := hun.result0
                      have HST0 : Hid (∀ p, p < C.nd → s.st p = 0) := hide (fun p hp => by rw [hst p hp]; simp)
                      have HNX := hide hn0
                      have HRS := hide hr0
                      clear hun hll has7 hxl hst hn0 hr0
                      go_wp2_with fail
                      refine (next_any HSQ1.out HOK1.out).mono ?_
                      rintro e w9 ⟨rfl, hf9⟩
                      rw [HNX.out]
                      dsimp only
                      have HAT9 := hide (HAT1.out.fr0 hf9)
                      have HSQ9 := hide (HSQ1.out.fr0 hf9)
                      have hf09 := hfx.call hf9
                      go_wp2_with fail
                      refine (result_any (HSQ9.out.fr0 ((Fr.refl [] _).alloc _))).mono ?_
                      rintro e w10 ⟨rfl, rfl⟩
                      rw [HRS.out]
                      dsimp only
                      go_wp2
                      go_loopg [35] C.nd (fun m v wz => HiR3 w9 C.nd m v wz)
                      case atStart => exact ⟨0, by omega, rfl, (Fr.refl _ _).alloc _, rfl⟩
                      case round =>
                        obtain ⟨q, hq, rfl, hfq, hmm⟩ := hrel
                        have HMq := hide hmm
                        clear hmm
                        by_cases hqn : q < C.nd
                        · have hqi : (q : Int) < (C.nd : Int) := by omega
                          have hst : stI C s (q : Int) = 0 := by rw [stI, if_pos ⟨by omega, hqi⟩, Int.toNat_natCast, HST0.out q hqn]; rfl
                          have HST := hide hst
                          clear hst
                          go_wp2_with fail
                          refine (tstate_any (HAT9.out.fr0 hfq) (q : Int)).mono ?_
                          rintro e w11 ⟨rfl, rfl⟩
                          rw [HST.out]
                          go_wp2
                          go_roundg (C.nd - (q + 1))
                          case measure => rw [HMq.out]; omega
                          case rel => exact ⟨q + 1, by omega, by go_num, hfq, rfl⟩
                        · have hqi : ¬ (q : Int) < (C.nd : Int) := by omega
                          go_wp2_with fail
                          refine (awake30_any wr).mono ?_
                          rintro e w11 ⟨rfl, hf11⟩
                          go_wp2
                          go_ret
                          exact ⟨rfl, (hf09.call hfq).call hf11⟩
                    | cons x L =>
                      obtain ⟨ph, dv⟩ := x
                      have hx5 := hxl (ph, dv) (List.mem_cons_self ..)
                      simp only at hx5
                      obtain ⟨hx5, hdv⟩ := hx5
                      have HNX := hide hun.next
                      have hstp := hun.step 0
                      have hlen : L.length + (k + 1) ≤ 8 * C.nd := by simp at hll; omega
                      have HA := hide has7
                      have HXL := hide hxl
                      have HSTT := hide hst
                      have hk8 : k < 8 * C.nd := by omega
                      clear hun hll has7 hxl hst
                      go_wp2_with fail
                      refine (next_any HSQ1.out HOK1.out).mono ?_
                      rintro e w9 ⟨rfl, hf9⟩
                      rw [HNX.out]
                      dsimp only
                      have HAT2 := hide (HAT1.out.fr0 hf9)
                      have HSQ2 := hide (HSQ1.out.fr0 hf9)
                      have hf09 := hfx.call hf9
                      clear HNX hf9 HAT1 HSQ1 hfx
                      have hFc : ((k : Int) == (F : Int)) = false ∨ ((k : Int) == (F : Int)) = true := by cases ((k : Int) == (F : Int)) <;> simp
                      have g4 : decide ((ph : Int) ≤ 4) = false := decide_eq_false (by omega)
                      have g4n : decide (ph ≤ 4) = false := decide_eq_false (by omega)
                      have g2 : ((ph : Int) == 2) = false := by rw [beq_eq_false_iff_ne]; omega
                      have HSTP := hide hstp
                      clear hstp
                      rcases hFc with bF | bF
                      all_goals
                        by_cases hp7 : ph = 7
                        · subst hp7
                          have hson := sf_on HOK.out HINV.out hclk hnd6 (by omega) HA.out HXL.out HSTT.out rfl
                          simp only at hson
                          obtain ⟨o1, o2, o3, o4⟩ := hson
                          have HST : Hid ((setM C k (dv : Int) 0 s).2.2 = 0 ∧ TInv C (setM C k (dv : Int) 0 s).1 ∧ (setM C k (dv : Int) 0 s).1.clk ≤ k) := hide ⟨o1, o2, o3⟩
                          have HCM : Hid ((S1.complete 0).2 = 0 ∧ SfMode C.nd (k + 1) (S1.complete 0).1 (setM C k (dv : Int) 0 s).1.st) := hide ⟨HSTP.out.1, .inr ⟨L, _, HSTP.out.2, hlen, (List.pairwise_cons.1 HA.out).2, fun y hy => HXL.out y (List.mem_cons_of_mem _ hy), o4⟩⟩
                          clear o1 o2 o3 o4 HSTP HA HXL HSTT g4 g4n g2 hx5
                          go_wp2_with fail
                          refine (tset_any (HAT2.out.fr0 ((Fr.refl [] _).alloc _)) HOK.out HINV.out (dv : Int) 0 k).mono ?_
                          rintro e w6 ⟨v6, rfl, hat6, hown6, hf6⟩
                          obtain ⟨A6, c6, rfl, -, -, -⟩ := own_slice hown6
                          obtain ⟨q1, q2, q3⟩ := HST.out
                          generalize setM C k (dv : Int) 0 s = r at hat6 q1 q2 q3 HCM hown6 ⊢
                          rw [q1]
                          have HAT6 := hide hat6
                          have HIV6 := hide q2
                          have HCK6 : Hid (r.1.clk ≤ k + 1) := hide (Nat.le_succ_of_le q3)
                          have HSQ6 := hide ((HSQ2.out.fr0 ((Fr.refl [] _).alloc _)).frLo hf6 (fun hm => (HWB.out b hm).2 rfl) (fun g hg => by rw [HLO1.out]; exact (HWB.out g hg).1))
                          have hf06 : Fr [] w w6 := (hf09.alloc _).step hf6 (fun y hy => .inr (HB.out.new y hy).1)
                          clear hat6 hown6 q1 q2 q3 HST HSQ2 HAT2 hf09
                          go_wp2_with fail
                          refine (complete_any 0 HSQ6.out HOK1.out).mono ?_
                          rintro e w8 ⟨rfl, hsq8, hf8⟩
                          rw [HCM.out.1]
                          have HSQ8 := hide hsq8
                          have HAT8 := hide (HAT6.out.other HLT.out hf8 hlo4)
                          have hf0e := fr_b hf06 hf8 hwb
                          clear hsq8
                          go_wp2
                          go_roundg (8 * C.nd + 1 - (k + 1))
                          case measure => rw [HM5.out]; omega
                          case rel => exact ⟨k + 1, _, _, by omega, by go_num, HAT8.out, HIV6.out, HCK6.out, HSQ8.out, by rw [complete_lo, HLO1.out], HCM.out.2, hf0e, rfl⟩
                        · have g7 : ((ph : Int) == 7) = false := by rw [beq_eq_false_iff_ne]; omega
                          have HCM : Hid ((S1.complete 0).2 = 0 ∧ SfMode C.nd (k + 1) (S1.complete 0).1 s.st) := hide ⟨HSTP.out.1, .inr ⟨L, _, HSTP.out.2, hlen, (List.pairwise_cons.1 HA.out).2, fun y hy => HXL.out y (List.mem_cons_of_mem _ hy), sf_pass HSTT.out hp7⟩⟩
                          clear hp7 HSTP HA HXL HSTT hx5
                          have hal : Fr [] w9 (w9.alloc (.cells #[.int .i64 (ph : Int), .int .i64 (dv : Int)] 69)) := (Fr.refl _ _).alloc _
                          have HAT6 := hide (HAT2.out.fr0 hal)
                          have HSQ6 := hide (HSQ2.out.fr0 hal)
                          have HIV6 := HINV
                          have HCK6 : Hid (s.clk ≤ k + 1) := hide (Nat.le_succ_of_le hclk)
                          have hf06 := hf09.call hal
                          clear HSQ2 HAT2 hf09 hal
                          go_wp2_with fail
                          refine (complete_any 0 HSQ6.out HOK1.out).mono ?_
                          rintro e w8 ⟨rfl, hsq8, hf8⟩
                          rw [HCM.out.1]
                          have HSQ8 := hide hsq8
                          have HAT8 := hide (HAT6.out.other HLT.out hf8 hlo4)
                          have hf0e := fr_b hf06 hf8 hwb
                          clear hsq8
                          go_wp2
                          go_roundg (8 * C.nd + 1 - (k + 1))
                          case measure => rw [HM5.out]; omega
                          case rel => exact ⟨k + 1, _, _, by omega, by go_num, HAT8.out, HIV6.out, HCK6.out, HSQ8.out, by rw [complete_lo, HLO1.out], HCM.out.2, hf0e, rfl⟩
end Go.Proofs.Ytdocdgghphhdpaa

