/- The law RuntimepmInUseIsAccessible, walked. -/
import Derived.Test.YtdocdgghphhdpaaMgRpInUse23
import Derived.Test.YtdocdgghphhdpaaMgRpInUse24
import Derived.Test.YtdocdgghphhdpaaMgRpInUse14
import Derived.Test.YtdocdgghphhdpaaMgRpInUse21
import Derived.Test.YtdocdgghphhdpaaMgRpInUse18
import Derived.Test.YtdocdgghphhdpaaMgRpInUse19
namespace Go.Proofs.Ytdocdgghphhdpaa
open Go.RowKit

def RaRel (w5 : World) (T : TP) (ds : List DV) (C : TC) (M : RM) (P : ML) (n m : Nat) (v14 v15 : Value) (wr : World) : Prop :=
  ∃ (j now : Nat) (s : RS) (st : TSt), j ≤ n ∧ v14 = uv now ∧ v15 = .int .i64 (j : Int) ∧ MgIn wr P M s ∧ St M s now j ∧ now ≤ 15 * j ∧ TrAt wr T ds C st ∧ AppI C s.act now st ∧ (∀ x, st.r.dn x ≤ 600 + 15360 * j) ∧ Fr (P.b :: P.g :: T.wr) w5 wr ∧ m = n - j
set_option maxHeartbeats 16000000 in
set_option maxRecDepth 100000 in
theorem rpInUse_any (A0 : Option Addr) (cp0 : Nat) (raw : List DV) (A1 : Option Addr) (cp1 : Nat) (rls : List RailD) (A2 : Option Addr) (cp2 : Nat) (du : List Nat) (A3 : Option Addr) (cp3 : Nat) (l : List CL) (w : World) (hr0 : Row w A0 (dvcs raw)) (hw0 : ∀ x ∈ raw, DvWf w x) (hm0 : raw.length ≤ maxLen) (hr1 : Row w A1 (rls.flatMap rlc)) (hm1 : rls.length ≤ maxLen) (hr2 : Row w A2 (du.map uv)) (hm2 : du.length ≤ maxLen) (hr3 : Row w A3 (clcs l)) (hm3 : l.length ≤ maxLen) :
    Calls Try.prog 12 #[.slice A0 raw.length cp0, .slice A1 rls.length cp1, .slice A2 du.length cp2, .slice A3 l.length cp3] w fun e w' => e = .returned (.bool true) ∧ Fr [] w w' := by
  have HDV : Hid (DvsAt w A0 raw) := hide ⟨hr0, fun x hx => (hw0 x hx).1⟩
  have HW := hide hw0
  have HML := hide hm0
  have HM1 := hide hm1
  have HMD := hide hm2
  have HM3 := hide hm3
  have HR1 : Hid (Row w A1 (rlcs (fun i => rls.getD i ⟨0, 0, 0⟩) rls.length)) := hide (by rw [rlcs_list rls _ (fun i x h => by simp [List.getD, h])]; exact hr1)
  have HDU := hide hr2
  have HL := hide hr3
  unfold maxLen at hm0 hm1 hm2 hm3
  clear hr0 hw0 hr1 hr2 hr3
  go_enter Try.func12, Try.ntmps12
  go_wp2_with fail
  refine (deep_any A0 cp0 raw A1 cp1 rls.length A3 cp3 l.length w HDV.out HML.out HM1.out HM3.out).mono ?_
  rintro e w1 ⟨big, rfl, hlg, rfl⟩
  cases big with
  | true =>
    go_wp2_with fail
    refine (awake28_any w).mono ?_
    rintro e w7 ⟨rfl, hf7⟩
    go_wp2
    go_ret
    exact ⟨rfl, hf7⟩
  | false =>
  obtain ⟨h20, h21, h40, hll⟩ := hlg rfl
  have HLG : Hid (∀ x ∈ raw, ∀ k, (x.rl k).length ≤ 4096) := hide (fun x hx k => by
    by_cases h : k < 4
    · have := hll x hx k h
      omega
    · rw [(HW.out x hx).2.2 k (by omega)]
      simp)
  clear hlg hll
  go_wp2_with fail
  refine (board_any A0 cp0 raw A1 cp1 rls.length _ A2 cp2 du w HDV.out HML.out HLG.out HR1.out h21 HDU.out HMD.out).mono ?_
  rintro e w2 ⟨C, ids, A7, A8, Ai, c7, c8, ci, out, rfl, hf02, hidl, hrI, hnd6, hn8, hok, hids, hcall⟩
  have h8 := ids_dev8 hok hnd6 hidl hids
  have HD11 : Hid (∀ i, (newRM ids).dl i ≤ 11) := hide (fun i => h8.dl11 i)
  obtain ⟨hnE, hMO, hORD, -⟩ := h8.new
  have HLK : Hid (∀ i q : Nat, i < C.nd → C.par i = (q : Int) → (i, q) ∈ (newRM ids).L) := hide (fun i q hi hq => ids_link h8 hidl hids hi hq)
  have HOK := hide hok
  have HORD := hide hORD
  have HMO := hide hMO
  have HCALL := hide hcall
  have HMN : Hid ((newRM ids).n = C.nd) := hide hidl
  go_upto_region 4 with (fail)
  have hbb := Blk.new w2 87 #[.slice Ai C.nd ci, .slice A8 C.nd c8, .slice A7 C.n c7]
  have hf23 : Fr [] w2 (w2.alloc (.cells #[.slice Ai C.nd ci, .slice A8 C.nd c8, .slice A7 C.n c7] 87)) := (Fr.refl _ _).alloc _
  generalize w2.alloc (.cells #[.slice Ai C.nd ci, .slice A8 C.nd c8, .slice A7 C.n c7] 87) = w3 at hbb hf23 ⊢
  generalize w2.heap.size = gB at hbb ⊢
  have hgB := hbb.lt
  have hnw := new28_ok Ai ci ids w3 ⟨hrI.fr0 hf23, fun x hx => by
    obtain ⟨i, hi⟩ := List.getElem?_of_mem hx
    obtain ⟨-, h2, -, h4⟩ := hids i x hi
    exact ⟨none, 0, by rw [h2, h4]; rfl, by rw [h4]; exact Row.nil _ _⟩⟩ (by omega) (fun x hx => by
    obtain ⟨i, hi⟩ := List.getElem?_of_mem hx
    rw [(hids i x hi).2.2.2]
    simp) hnE
  rw [hidl] at hnw
  have HNW := hide hnw
  have HBB := hide hbb
  have c0 := hbb.cell 0
  simp only [List.getElem?_toArray, List.getElem?_cons_zero] at c0
  clear h8 hnE hMO hORD hok hcall hids hrI hnw hbb hidl HDV HW HML HM1 HMD HM3 HR1 HDU HLG
  go_wp2_with fail
  refine HNW.out.mono ?_
  rintro e w4 ⟨P, rfl, hmg, hpb, hpg, htop, hf34, -⟩
  generalize newRM ids = M at HD11 HLK HORD HMO HMN hmg
  have HIN4 := hide hmg
  have HBB4 := hide (HBB.out.fr hf34 (by simp))
  clear c0 hmg HNW HBB
  have c1 := HBB4.out.cell 1
  have c2 := HBB4.out.cell 2
  simp only [List.getElem?_toArray, List.getElem?_cons_zero, List.getElem?_cons_succ] at c1 c2
  go_wp2_with fail
  refine (HCALL.out w4 (hf23.call hf34)).mono ?_
  rintro e w5 ⟨T, ds', rfl, hb, hf45, hwrb, hhi⟩
  have HB := hide hb
  have hf05 := hb.fr
  have HIN5 := hide (HIN4.out.fr0 hf45)
  have HBB5 := hide (HBB4.out.fr hf45 (by simp))
  have HWRB := hide hwrb
  have HHI := hide hhi
  have hs34 := hf34.size
  have hs45 := hf45.size
  have HMGT : Hid (∀ g ∈ T.wr, P.top ≤ g) := hide (fun g hg => by have := hwrb g hg; omega)
  have HLOWP : Hid (∀ g ∈ [P.b, P.g], g < w4.heap.size) := hide (fun g hg => by
    have := HIN4.out.low
    simp at hg
    omega)
  have HGB : Hid (gB ∉ P.b :: P.g :: T.wr) := hide (fun hm => by
    rcases List.mem_cons.1 hm with e | hm
    · omega
    rcases List.mem_cons.1 hm with e | hm
    · omega
    have := hwrb _ hm
    omega)
  have HNEW0 : Hid (∀ g ∈ P.b :: P.g :: T.wr, w.heap.size ≤ g) := hide (fun g hg => by
    have h1 := hf02.size
    have h2 := hf23.size
    rcases List.mem_cons.1 hg with e | hg
    · omega
    rcases List.mem_cons.1 hg with e | hg
    · omega
    exact (HB.out.new g hg).1)
  clear hb hwrb hhi c1 c2 HCALL HIN4 HBB4 hf34 hf45 hf23 hf02
  go_wp2
  go_loopg [14, 15] l.length (fun m v14 v15 wr => RaRel w5 T ds' C M P l.length m v14 v15 wr)
  case atStart => exact ⟨0, 0, zeroS, tsz, by omega, rfl, rfl, HIN5.out, St.zero M, by omega, HB.out.at_, app_zero C, fun _ => Nat.zero_le _, Fr.refl _ _, rfl⟩
  case round =>
    obtain ⟨k, now, s, st, hk, rfl, rfl, hin, hst, hnow, hat, hap, hdn, hfr, hmm⟩ := hrel
    have HM := hide hmm
    have HDNr := hide hdn
    clear hdn
    have HINr := hide hin
    have HSTr := hide hst
    have HATr := hide hat
    have HAPr := hide hap
    have hfwr : Fr [] w wr := hf05.step hfr (fun y hy => .inr (HNEW0.out y hy))
    have hbr := HBB5.out.fr hfr HGB.out
    have HBr := hide hbr
    have k0 := hbr.cell 0
    simp only [List.getElem?_toArray, List.getElem?_cons_zero] at k0
    have hs5r := hfr.size
    clear hmm hin hst hat hap HIN5 hbr
    by_cases hlt : k < l.length
    · by_cases hn0 : 0 < C.nd
      · obtain ⟨c, hc⟩ : ∃ c, l[k]? = some c := ⟨_, List.getElem?_eq_getElem hlt⟩
        obtain ⟨ob, oo, rfl, c0, c1, c2, c3⟩ := (HL.out.fr0 hfwr).cl hc
        have hkl : (k : Int) < (l.length : Int) := by omega
        have hni : (0 : Int) < (C.nd : Int) := by omega
        have b1 : decide ((k : Int) < (l.length : Int)) = true := decide_eq_true hkl
        have b2 : decide ((0 : Int) < (C.nd : Int)) = true := decide_eq_true hni
        have hb5 := clr_blk (w := wr) c
        have hf5 := clr_fr (w := wr) c
        have k0' := hf5.cell k0 (by simp)
        clear hc
        go_upto_region 14 with (fail)
        generalize wr.alloc (.cells #[.int .i64 c.kind, .int .i64 c.dev, .int .u64 (c.wait : Int), .bool false] 93) = w6 at hb5 hf5 k0' ⊢
        generalize wr.heap.size = gc at hb5 hs5r ⊢
        obtain ⟨now', hda⟩ := do_any (M := M) HORD.out HSTr.out (clr c) rfl (by omega) (fun _ => by omega)
        rw [HMN.out] at hda
        have HDA := hide hda
        have e0 : w6.cell? ⟨gc, 0, none⟩ = some (.int .i64 c.kind) := hb5.cell 0
        have e1 : w6.cell? ⟨gc, 1, none⟩ = some (.int .i64 c.dev) := hb5.cell 1
        have e2 : w6.cell? ⟨gc, 2, none⟩ = some (.int .u64 (c.wait : Int)) := hb5.cell 2
        have e3 : w6.cell? ⟨gc, 3, none⟩ = some (.bool false) := hb5.cell 3
        clear hda k0 c0 c1 c2 c3 b1 b2
        go_wp2_with fail
        refine (at28_any (clr c) C.nd now w6 (by omega) (by omega)).mono ?_
        rintro e w7 ⟨rfl, hf7⟩
        have HB7 := hide (hb5.fr hf7 (by simp))
        have k0 := hf7.cell k0' (by simp)
        clear e0 e1 e2 e3 hb5 k0'
        have e0 : w7.cell? ⟨gc, 0, none⟩ = some (.int .i64 c.kind) := HB7.out.cell 0
        have e1 : w7.cell? ⟨gc, 1, none⟩ = some (.int .i64 c.dev) := HB7.out.cell 1
        have e2 : w7.cell? ⟨gc, 2, none⟩ = some (.int .u64 (c.wait : Int)) := HB7.out.cell 2
        have e3 : w7.cell? ⟨gc, 3, none⟩ = some (.bool false) := HB7.out.cell 3
        have hfr7 := hf5.call hf7
        have HIN7 := hide (HINr.out.fr0 hfr7)
        have HAT7 := hide (HATr.out.fr0 hfr7)
        have hf57 := hfr.call hfr7
        have hz7 := hf57.size
        have hdo := do28_any HIN7.out HMO.out (HSTr.out.sok (by omega) (by omega)) (by omega) (fun i => by have := HSTr.out.use i; omega) (clr c) now (by omega)
        rw [HMN.out] at hdo
        have HDO := hide hdo
        clear hdo hf5 hf7 hfr7
        generalize atM (clr c) C.nd now = at_ at HDA ⊢
        go_wp2_with fail
        refine HDO.out.mono ?_
        rintro e w8 ⟨v, rfl, hin8, hown8, hf8⟩
        have hfew := doC_few HMO.out s (clr c) now
        rw [HMN.out] at hfew
        have hopl := doC_len HMO.out s (clr c) now
        generalize doC M s (clr c) now = R at HDA hin8 hown8 hopl hfew ⊢
        obtain ⟨A8o, c8o, rfl, -, hrow8, hbl8⟩ := own_slice hown8
        have HIN8 := hide hin8
        have HAT8 := hide (HAT7.out.frUnder HWRB.out HHI.out hf8 HLOWP.out)
        have HROW8 := hide hrow8
        have hz8 := hf8.size
        have hf58 : Fr (P.b :: P.g :: T.wr) w5 w8 := hf57.trans (hf8.mono (fun y _ hy => by simp at hy ⊢; omega))
        have HOFF8 : Hid (∀ ad, A8o = some ad → ad.block ∉ T.wr) := hide (fun ad e hm => by
          have h1 := (hbl8 ad e).1
          have h2 := (HB.out.new _ hm).2
          omega)
        clear hin8 hown8 hrow8 hbl8 hf8 hf57 HIN7 HAT7 e0 e1 e2 e3 k0 HDO
        go_upto_if 96 with (fail)
        go_cut [14] (fun v14 wx => v14 = uv now' ∧ w8 = wx)
        case first =>
          by_cases h0 : R.2.2 = 0
          · have hb : (R.2.2 == 0) = true := by rw [h0]; rfl
            have HE := hide (HDA.out.ok h0)
            clear h0
            go_wp2
            go_meet
            exact ⟨by rw [HE.out], rfl⟩
          · have hb : (R.2.2 == 0) = false := beq_eq_false_iff_ne.2 h0
            have HE := hide (HDA.out.bad h0).1
            clear h0
            go_wp2
            go_meet
            exact ⟨by rw [HE.out], rfl⟩
        case rest =>
          obtain ⟨rfl, rfl⟩ := hcut
          have hge := HDA.out.ge
          have hnear := HDA.out.near (by rw [HMN.out]; exact hn0)
          have hrun : Runs M now' s.act 0 R.2.1 ∧ R.1.act = actsF s.act R.2.1 := by
            by_cases h0 : R.2.2 = 0
            · exact HDA.out.run h0 0 (Nat.zero_le _)
            · obtain ⟨-, h2, h3⟩ := HDA.out.bad h0
              rw [h2, h3]
              exact ⟨trivial, rfl⟩
          have HAPP := hide (applyL_any HAT8.out HOK.out HMN.out HLK.out R.2.1 (HAPr.out.later hge) (by unfold MaxT; omega) hrun.1 A8o c8o HROW8.out HOFF8.out (by omega) (B := 600 + 15360 * k) HB.out.lim hn8 (by omega) HDNr.out)
          have HACT := hide hrun.2
          clear hrun
          go_wp2_with fail
          refine HAPP.out.mono ?_
          rintro e w9 ⟨rfl, st', hat9, hap9, hdn9, hf9⟩
          have HDN9 : Hid (∀ x, st'.r.dn x ≤ 600 + 15360 * (k + 1)) := hide (fun x => Nat.le_trans (hdn9 x) (by omega))
          clear hdn9 hfew
          rw [← HACT.out] at hap9
          have HST9 := hide HDA.out.st
          have HIN9 := hide (HIN8.out.fr hf9 HMGT.out)
          have HAT9 := hide hat9
          have HAP9 := hide hap9
          have hf59 : Fr (P.b :: P.g :: T.wr) w5 w9 := hf58.trans (hf9.mono (fun y _ hy => List.mem_cons_of_mem _ (List.mem_cons_of_mem _ hy)))
          have hbb9 := HBB5.out.fr hf59 HGB.out
          have HB9 := hide hbb9
          have k0 := hbb9.cell 0
          simp only [List.getElem?_toArray, List.getElem?_cons_zero] at k0
          clear hat9 hap9 hf9 hf58 HAPP HACT HIN8 HAT8 HAPr HINr HATr HDA hbb9 HROW8 HOFF8
          generalize R.1 = s' at HST9 HIN9 HAP9
          have HUP := hide (fun (i q : Nat) (hi : i < C.nd) (hq : C.par i = (q : Int)) (ha : s'.act i = true) => HST9.out.good.up.sup (i, q) (HLK.out i q hi hq) ha)
          obtain ⟨t2, ht2⟩ : ∃ t2, t2 = now' + 1000000 := ⟨_, rfl⟩
          have hsum : ((now' : Int) + 1000000) = (t2 : Int) := by omega
          have hws : IntKind.u64.wrap ((now' : Int) + 1000000) = (t2 : Int) := by rw [IntKind.wrap_u64]; omega
          have HACC := hide (fun (q : Nat) (hq : q < C.nd) (hu : 0 < s'.use q) => app_acc HOK.out HAP9.out HUP.out (P := T.pr) HAT9.out.pn (t := t2) (fun x => Nat.le_trans (HDN9.out x) (by omega)) hq (HST9.out.good.up.use q hu))
          clear ht2
          rw [show uv now' = Value.int .u64 (now' : Int) from rfl]
          go_wp2
          go_loopg [21] C.nd (fun m i wr => RpK w9 C.nd m i wr)
          case atStart => exact ⟨0, by omega, rfl, Fr.refl _ _, rfl⟩
          case round =>
            obtain ⟨q, hq, rfl, hfq, hmm⟩ := hrel
            have HMq := hide hmm
            have k0' := hfq.cell k0 (by simp)
            clear hmm
            by_cases hqn : q < C.nd
            · have hqi : (q : Int) < (C.nd : Int) := by omega
              have hus := usage28_any (HIN9.out.fr0 hfq) (q : Int)
              rw [HMN.out, if_pos ⟨by omega, hqi⟩, Int.toNat_natCast] at hus
              have HUS := hide hus
              have hac := HACC.out q hqn
              have HAC := hide hac
              clear hus hac
              generalize s'.use q = u at HUS HAC
              by_cases hu0 : 0 < u
              · have HAC2 := hide (HAC.out hu0)
                have g1 : decide ((0 : Int) < (u : Int)) = true := decide_eq_true (by omega)
                have g2 : decide (0 < u) = true := decide_eq_true hu0
                go_wp2_with fail
                refine HUS.out.mono ?_
                rintro e w10 ⟨rfl, rfl⟩
                go_wp2_with fail
                refine HUS.out.mono ?_
                rintro e w10 ⟨rfl, rfl⟩
                go_wp2_with fail
                refine (tacc_any (HAT9.out.fr0 hfq) HOK.out (q : Int) t2).mono ?_
                rintro e w10 ⟨rfl, rfl⟩
                rw [HAC2.out]
                go_wp2
                go_roundg (C.nd - (q + 1))
                case measure => rw [HMq.out]; omega
                case rel => exact ⟨q + 1, by omega, by go_num, hfq, rfl⟩
              · have g1 : decide ((0 : Int) < (u : Int)) = false := decide_eq_false (by omega)
                have g2 : decide (0 < u) = false := decide_eq_false hu0
                go_wp2_with fail
                refine HUS.out.mono ?_
                rintro e w10 ⟨rfl, rfl⟩
                go_wp2_with fail
                refine HUS.out.mono ?_
                rintro e w10 ⟨rfl, rfl⟩
                go_wp2
                go_roundg (C.nd - (q + 1))
                case measure => rw [HMq.out]; omega
                case rel => exact ⟨q + 1, by omega, by go_num, hfq, rfl⟩
            · have hqi : ¬ (q : Int) < (C.nd : Int) := by omega
              have hfe := hf59.call hfq
              have HINe := hide (HIN9.out.fr0 hfq)
              have HATe := hide (HAT9.out.fr0 hfq)
              go_wp2
              go_roundg (l.length - (k + 1))
              case measure => rw [HM.out]; omega
              case rel => exact ⟨k + 1, now', s', st', by omega, rfl, by go_num, HINe.out, HST9.out, by omega, HATe.out, HAP9.out, HDN9.out, hfe, rfl⟩
      · have b1 : decide ((k : Int) < (l.length : Int)) = true := decide_eq_true (by omega)
        have b2 : decide ((0 : Int) < (C.nd : Int)) = false := decide_eq_false (by omega)
        go_wp2_with fail
        refine (awake28_any wr).mono ?_
        rintro e w7 ⟨rfl, hf7⟩
        go_wp2
        go_ret
        exact ⟨rfl, hfwr.call hf7⟩
    · have b1 : decide ((k : Int) < (l.length : Int)) = false := decide_eq_false (by omega)
      go_wp2_with fail
      refine (awake28_any wr).mono ?_
      rintro e w7 ⟨rfl, hf7⟩
      go_wp2
      go_ret
      exact ⟨rfl, hfwr.call hf7⟩
end Go.Proofs.Ytdocdgghphhdpaa

/- Arguments that came in, opened: slices of uint64 and calls of chapter 28, beside the other openings of the tree's laws. -/
namespace Go.Proofs.Ytdocdgghphhdpaa
open Go.RowKit Go.ChangeShapes Go.WideShapes Go.Deep
section
variable {H : Type} {enc : TypeId × Value → H} {w : World} {base : Nat} {spare : Nat → Bool} {held : Bool}
theorem open_u64l {A : Option Addr} {len cap : Nat} {d : DataW H} {p : List MemPlace} (h : DataW.Trod enc Try.prog w base spare held 82 (.slice A len cap) d p) :
    ∃ l : List Nat, l.length = len ∧ Row w A (l.map uv) ∧ l.length ≤ maxLen ∧ (A = none → cap = 0) ∧ ∀ q ∈ l, q ≤ 18446744073709551615 := by
  obtain ⟨l, h1, h2, h3⟩ := open_rows (f := fun x : Nat => [uv x]) (m := 1) (Wf := fun q => q ≤ 18446744073709551615) Try.underlying82 (by kernel_rfl) (by omega) (fun _ => rfl) (fun n cs y h => by
    obtain ⟨a, rfl, _, wa⟩ := DataW.trod_int Try.underlying33 h
    obtain ⟨n, rfl, hn⟩ := nat_of wa
    exact ⟨n, rfl, hn⟩) h
  rw [flat_one] at h2
  exact ⟨l, h1, h2, h3⟩
theorem call_fields : ∃ f0 f1 f2 f3, Try.prog.underlying 93 = some (.struct #[f0, f1, f2, f3]) ∧ (f0.type = 3 ∧ f1.type = 3 ∧ f2.type = 33 ∧ f3.type = 4) ∧ (f0.offset = 0 ∧ f1.offset = 1 ∧ f2.offset = 2 ∧ f3.offset = 3) :=
  ⟨(Try.prog.fieldsOf 93)[0]!, (Try.prog.fieldsOf 93)[1]!, (Try.prog.fieldsOf 93)[2]!, (Try.prog.fieldsOf 93)[3]!, by kernel_rfl, ⟨by kernel_rfl, by kernel_rfl, by kernel_rfl, by kernel_rfl⟩, by kernel_rfl, by kernel_rfl, by kernel_rfl, by kernel_rfl⟩
set_option maxRecDepth 100000 in
theorem open_call {n : Nat} {cs : List Value} {y : DataW H × List MemPlace} (h : DataW.trod enc Try.prog w base spare held n 93 cs = some y) : ∃ x : CL, cs = clc x ∧ x.wait ≤ 18446744073709551615 := by
  obtain ⟨f0, f1, f2, f3, hs, ⟨t0, t1, t2, t3⟩, o0, o1, o2, o3⟩ : ∃ f0 f1 f2 f3, Try.prog.underlying 93 = some (.struct #[f0, f1, f2, f3]) ∧ (f0.type = 3 ∧ f1.type = 3 ∧ f2.type = 33 ∧ f3.type = 4) ∧ (f0.offset = 0 ∧ f1.offset = 1 ∧ f2.offset = 2 ∧ f3.offset = 3) := call_fields
  obtain ⟨xs, k, _, _, hl, hlen, hf⟩ := DataW.trod_struct hs h
  have hc : Try.prog.cellsOf 93 = 4 := by kernel_rfl
  have hi : Try.prog.cellsOf 3 = 1 := by kernel_rfl
  have hu : Try.prog.cellsOf 33 = 1 := by kernel_rfl
  have hb : Try.prog.cellsOf 4 = 1 := by kernel_rfl
  rw [hc] at hl
  match xs, hlen, cs, hl with
  | [x0, x1, x2, x3], _, [c0, c1, c2, c3], _ =>
    have g0 := hf 0 f0 rfl
    have g1 := hf 1 f1 rfl
    have g2 := hf 2 f2 rfl
    have g3 := hf 3 f3 rfl
    rw [t0, o0, hi] at g0
    rw [t1, o1, hi] at g1
    rw [t2, o2, hu] at g2
    rw [t3, o3, hb] at g3
    simp at g0 g1 g2 g3
    obtain ⟨a0, e0, _, _⟩ := DataW.trod_int Try.underlying3 g0
    obtain ⟨a1, e1, _, _⟩ := DataW.trod_int Try.underlying3 g1
    obtain ⟨a2, e2, _, w2⟩ := DataW.trod_int Try.underlying33 g2
    obtain ⟨a3, e3, _⟩ := DataW.trod_bool Try.underlying4 g3
    obtain ⟨n2, rfl, hn2⟩ := nat_of w2
    simp at e0 e1 e2 e3
    subst e0 e1 e2 e3
    exact ⟨⟨a0, a1, n2, a3⟩, rfl, hn2⟩
theorem open_calls {A : Option Addr} {len cap : Nat} {d : DataW H} {p : List MemPlace} (h : DataW.Trod enc Try.prog w base spare held 83 (.slice A len cap) d p) :
    ∃ l : List CL, l.length = len ∧ Row w A (clcs l) ∧ l.length ≤ maxLen ∧ (A = none → cap = 0) ∧ ∀ q ∈ l, q.wait ≤ 18446744073709551615 :=
  open_rows (f := clc) Try.underlying83 (by kernel_rfl) (by omega) clc_len (fun _ _ _ h => open_call h) h
end
end Go.Proofs.Ytdocdgghphhdpaa

