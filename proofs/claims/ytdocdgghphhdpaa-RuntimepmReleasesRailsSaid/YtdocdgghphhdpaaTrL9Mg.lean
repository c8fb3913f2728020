/- The law RuntimepmReleasesRails, walked. -/
import Derived.Test.YtdocdgghphhdpaaMgRpReleases23
import Derived.Test.YtdocdgghphhdpaaMgRpReleases7
namespace Go.Proofs.Ytdocdgghphhdpaa
open Go.RowKit

def RvO (w5 : World) (T : TP) (ds : List DV) (C : TC) (M : RM) (P : ML) (now m : Nat) (i : Value) (wr : World) : Prop :=
  ∃ (q : Nat) (s : RS) (st : TSt), q ≤ C.nd ∧ i = .int .i64 (q : Int) ∧ MgIn wr P M s ∧ St M s now 40 ∧ (∀ j, j < q → s.use j = 0) ∧ TrAt wr T ds C st ∧ AppI C s.act now st ∧ Fr (P.b :: P.g :: T.wr) w5 wr ∧ m = C.nd - q
def RvI (w5 : World) (T : TP) (ds : List DV) (C : TC) (M : RM) (P : ML) (now q m : Nat) (i : Value) (wr : World) : Prop :=
  ∃ (u : Nat) (s : RS) (st : TSt), i = .int .i64 (u : Int) ∧ s.use q = u ∧ MgIn wr P M s ∧ St M s now 40 ∧ (∀ j, j < q → s.use j = 0) ∧ TrAt wr T ds C st ∧ AppI C s.act now st ∧ Fr (P.b :: P.g :: T.wr) w5 wr ∧ m = u
def RvR (w7 : World) (n : Nat) (m : Nat) (i : Value) (wr : World) : Prop := ∃ j : Nat, j ≤ n ∧ i = .int .i64 (j : Int) ∧ w7 = wr ∧ m = n - j
set_option maxHeartbeats 16000000 in
set_option maxRecDepth 100000 in
theorem rpReleases_any (A0 : Option Addr) (cp0 : Nat) (raw : List DV) (A1 : Option Addr) (cp1 : Nat) (rls : List RailD) (A2 : Option Addr) (cp2 : Nat) (du : List Nat) (A3 : Option Addr) (cp3 : Nat) (l : List CL) (w : World) (hr0 : Row w A0 (dvcs raw)) (hw0 : ∀ x ∈ raw, DvWf w x) (hm0 : raw.length ≤ maxLen) (hr1 : Row w A1 (rls.flatMap rlc)) (hm1 : rls.length ≤ maxLen) (hr2 : Row w A2 (du.map uv)) (hm2 : du.length ≤ maxLen) (hr3 : Row w A3 (clcs l)) (hm3 : l.length ≤ maxLen) :
    Calls Try.prog 11 #[.slice A0 raw.length cp0, .slice A1 rls.length cp1, .slice A2 du.length cp2, .slice A3 l.length cp3] w fun e w' => e = .returned (.bool true) ∧ Fr [] w w' := by
  have HDV : Hid (DvsAt w A0 raw) := hide ⟨hr0, fun x hx => (hw0 x hx).1⟩
  have HW := hide hw0
  have HML := hide hm0
  have HM1 := hide hm1
  have HMD := hide hm2
  have HM3 := hide hm3
  have HR1 : Hid (Row w A1 (rlcs (fun i => rls.getD i ⟨0, 0, 0⟩) rls.length)) := hide (by rw [rlcs_list rls _ (fun i x h => by simp [List.getD, h])]; exact hr1)
  have HDU := hide hr2
  have HL := hide hr3
  unfold maxLen at hm0 hm1 hm2 hm3
  clear hr0 hw0 hr1 hr2 hr3
  go_enter Try.func11, Try.ntmps11
  go_wp2_with fail
  refine (deep_any A0 cp0 raw A1 cp1 rls.length A3 cp3 l.length w HDV.out HML.out HM1.out HM3.out).mono ?_
  rintro e w1 ⟨big, rfl, hlg, rfl⟩
  cases big with
  | true =>
    go_wp2_with fail
    refine (awake28_any w).mono ?_
    rintro e w7 ⟨rfl, hf7⟩
    go_wp2
    go_ret
    exact ⟨rfl, hf7⟩
  | false =>
  obtain ⟨h20, h21, h40, hll⟩ := hlg rfl
  have HLG : Hid (∀ x ∈ raw, ∀ k, (x.rl k).length ≤ 4096) := hide (fun x hx k => by
    by_cases h : k < 4
    · have := hll x hx k h
      omega
    · rw [(HW.out x hx).2.2 k (by omega)]
      simp)
  clear hlg hll
  go_wp2_with fail
  refine (board_any A0 cp0 raw A1 cp1 rls.length _ A2 cp2 du w HDV.out HML.out HLG.out HR1.out h21 HDU.out HMD.out).mono ?_
  rintro e w2 ⟨C, ids, A7, A8, Ai, c7, c8, ci, out, rfl, hf02, hidl, hrI, hnd6, hn8, hok, hids, hcall⟩
  have h8 := ids_dev8 hok hnd6 hidl hids
  have HD11 : Hid (∀ i, (newRM ids).dl i ≤ 11) := hide (fun i => h8.dl11 i)
  obtain ⟨hnE, hMO, hORD, -⟩ := h8.new
  have HLK : Hid (∀ i q : Nat, i < C.nd → C.par i = (q : Int) → (i, q) ∈ (newRM ids).L) := hide (fun i q hi hq => ids_link h8 hidl hids hi hq)
  have HOK := hide hok
  have HORD := hide hORD
  have HMO := hide hMO
  have HCALL := hide hcall
  have HMN : Hid ((newRM ids).n = C.nd) := hide hidl
  go_upto_region 4 with (fail)
  have hbb := Blk.new w2 87 #[.slice Ai C.nd ci, .slice A8 C.nd c8, .slice A7 C.n c7]
  have hf23 : Fr [] w2 (w2.alloc (.cells #[.slice Ai C.nd ci, .slice A8 C.nd c8, .slice A7 C.n c7] 87)) := (Fr.refl _ _).alloc _
  generalize w2.alloc (.cells #[.slice Ai C.nd ci, .slice A8 C.nd c8, .slice A7 C.n c7] 87) = w3 at hbb hf23 ⊢
  generalize w2.heap.size = gB at hbb ⊢
  have hgB := hbb.lt
  have hnw := new28_ok Ai ci ids w3 ⟨hrI.fr0 hf23, fun x hx => by
    obtain ⟨i, hi⟩ := List.getElem?_of_mem hx
    obtain ⟨-, h2, -, h4⟩ := hids i x hi
    exact ⟨none, 0, by rw [h2, h4]; rfl, by rw [h4]; exact Row.nil _ _⟩⟩ (by omega) (fun x hx => by
    obtain ⟨i, hi⟩ := List.getElem?_of_mem hx
    rw [(hids i x hi).2.2.2]
    simp) hnE
  rw [hidl] at hnw
  have HNW := hide hnw
  have HBB := hide hbb
  have c0 := hbb.cell 0
  simp only [List.getElem?_toArray, List.getElem?_cons_zero] at c0
  clear h8 hnE hMO hORD hok hcall hids hrI hnw hbb hidl HDV HW HML HM1 HMD HM3 HR1 HDU HLG
  go_wp2_with fail
  refine HNW.out.mono ?_
  rintro e w4 ⟨P, rfl, hmg, hpb, hpg, htop, hf34, -⟩
  generalize newRM ids = M at HD11 HLK HORD HMO HMN hmg
  have HIN4 := hide hmg
  have HBB4 := hide (HBB.out.fr hf34 (by simp))
  clear c0 hmg HNW HBB
  have c1 := HBB4.out.cell 1
  have c2 := HBB4.out.cell 2
  simp only [List.getElem?_toArray, List.getElem?_cons_zero, List.getElem?_cons_succ] at c1 c2
  go_wp2_with fail
  refine (HCALL.out w4 (hf23.call hf34)).mono ?_
  rintro e w5 ⟨T, ds', rfl, hb, hf45, hwrb, hhi⟩
  have HB := hide hb
  have hf05 := hb.fr
  have HIN5 := hide (HIN4.out.fr0 hf45)
  have HBB5 := hide (HBB4.out.fr hf45 (by simp))
  have HWRB := hide hwrb
  have HHI := hide hhi
  have hs34 := hf34.size
  have hs45 := hf45.size
  have HMGT : Hid (∀ g ∈ T.wr, P.top ≤ g) := hide (fun g hg => by have := hwrb g hg; omega)
  have HLOWP : Hid (∀ g ∈ [P.b, P.g], g < w4.heap.size) := hide (fun g hg => by
    have := HIN4.out.low
    simp at hg
    omega)
  have HGB : Hid (gB ∉ P.b :: P.g :: T.wr) := hide (fun hm => by
    rcases List.mem_cons.1 hm with e | hm
    · omega
    rcases List.mem_cons.1 hm with e | hm
    · omega
    have := hwrb _ hm
    omega)
  have HNEW0 : Hid (∀ g ∈ P.b :: P.g :: T.wr, w.heap.size ≤ g) := hide (fun g hg => by
    have h1 := hf02.size
    have h2 := hf23.size
    rcases List.mem_cons.1 hg with e | hg
    · omega
    rcases List.mem_cons.1 hg with e | hg
    · omega
    exact (HB.out.new g hg).1)
  clear hb hwrb hhi c1 c2 HCALL HIN4 HBB4 hf34 hf45 hf23 hf02
  go_wp2
  go_loopg [14, 15] l.length (fun m v14 v15 wr => RpRel w5 T ds' C M P l.length m v14 v15 wr)
  case atStart => exact ⟨0, 0, zeroS, tsz, by omega, rfl, rfl, HIN5.out, St.zero M, by omega, HB.out.at_, app_zero C, Fr.refl _ _, rfl⟩
  case round =>
    obtain ⟨k, now, s, st, hk, rfl, rfl, hin, hst, hnow, hat, hap, hfr, hmm⟩ := hrel
    have HM := hide hmm
    have HINr := hide hin
    have HSTr := hide hst
    have HATr := hide hat
    have HAPr := hide hap
    have hfwr : Fr [] w wr := hf05.step hfr (fun y hy => .inr (HNEW0.out y hy))
    have hbr := HBB5.out.fr hfr HGB.out
    have HBr := hide hbr
    have k0 := hbr.cell 0
    simp only [List.getElem?_toArray, List.getElem?_cons_zero] at k0
    have hs5r := hfr.size
    clear hmm hin hst hat hap HIN5 hbr
    by_cases hlt : k < l.length
    · by_cases hn0 : 0 < C.nd
      · obtain ⟨c, hc⟩ : ∃ c, l[k]? = some c := ⟨_, List.getElem?_eq_getElem hlt⟩
        obtain ⟨ob, oo, rfl, c0, c1, c2, c3⟩ := (HL.out.fr0 hfwr).cl hc
        have hkl : (k : Int) < (l.length : Int) := by omega
        have hni : (0 : Int) < (C.nd : Int) := by omega
        have b1 : decide ((k : Int) < (l.length : Int)) = true := decide_eq_true hkl
        have b2 : decide ((0 : Int) < (C.nd : Int)) = true := decide_eq_true hni
        have hb5 := clr_blk (w := wr) c
        have hf5 := clr_fr (w := wr) c
        have k0' := hf5.cell k0 (by simp)
        clear hc
        go_upto_region 14 with (fail)
        generalize wr.alloc (.cells #[.int .i64 c.kind, .int .i64 c.dev, .int .u64 (c.wait : Int), .bool false] 93) = w6 at hb5 hf5 k0' ⊢
        generalize wr.heap.size = gc at hb5 hs5r ⊢
        obtain ⟨now', hda⟩ := do_any (M := M) HORD.out HSTr.out (clr c) rfl (by omega) (fun _ => by omega)
        rw [HMN.out] at hda
        have HDA := hide hda
        have e0 : w6.cell? ⟨gc, 0, none⟩ = some (.int .i64 c.kind) := hb5.cell 0
        have e1 : w6.cell? ⟨gc, 1, none⟩ = some (.int .i64 c.dev) := hb5.cell 1
        have e2 : w6.cell? ⟨gc, 2, none⟩ = some (.int .u64 (c.wait : Int)) := hb5.cell 2
        have e3 : w6.cell? ⟨gc, 3, none⟩ = some (.bool false) := hb5.cell 3
        clear hda k0 c0 c1 c2 c3 b1 b2
        go_wp2_with fail
        refine (at28_any (clr c) C.nd now w6 (by omega) (by omega)).mono ?_
        rintro e w7 ⟨rfl, hf7⟩
        have HB7 := hide (hb5.fr hf7 (by simp))
        have k0 := hf7.cell k0' (by simp)
        clear e0 e1 e2 e3 hb5 k0'
        have e0 : w7.cell? ⟨gc, 0, none⟩ = some (.int .i64 c.kind) := HB7.out.cell 0
        have e1 : w7.cell? ⟨gc, 1, none⟩ = some (.int .i64 c.dev) := HB7.out.cell 1
        have e2 : w7.cell? ⟨gc, 2, none⟩ = some (.int .u64 (c.wait : Int)) := HB7.out.cell 2
        have e3 : w7.cell? ⟨gc, 3, none⟩ = some (.bool false) := HB7.out.cell 3
        have hfr7 := hf5.call hf7
        have HIN7 := hide (HINr.out.fr0 hfr7)
        have HAT7 := hide (HATr.out.fr0 hfr7)
        have hf57 := hfr.call hfr7
        have hz7 := hf57.size
        have hdo := do28_any HIN7.out HMO.out (HSTr.out.sok (by omega) (by omega)) (by omega) (fun i => by have := HSTr.out.use i; omega) (clr c) now (by omega)
        rw [HMN.out] at hdo
        have HDO := hide hdo
        clear hdo hf5 hf7 hfr7
        generalize atM (clr c) C.nd now = at_ at HDA ⊢
        go_wp2_with fail
        refine HDO.out.mono ?_
        rintro e w8 ⟨v, rfl, hin8, hown8, hf8⟩
        have hopl := doC_len HMO.out s (clr c) now
        generalize doC M s (clr c) now = R at HDA hin8 hown8 hopl ⊢
        obtain ⟨A8o, c8o, rfl, -, hrow8, hbl8⟩ := own_slice hown8
        have HIN8 := hide hin8
        have HAT8 := hide (HAT7.out.frUnder HWRB.out HHI.out hf8 HLOWP.out)
        have HROW8 := hide hrow8
        have hz8 := hf8.size
        have hf58 : Fr (P.b :: P.g :: T.wr) w5 w8 := hf57.trans (hf8.mono (fun y _ hy => by simp at hy ⊢; omega))
        have HOFF8 : Hid (∀ ad, A8o = some ad → ad.block ∉ T.wr) := hide (fun ad e hm => by
          have h1 := (hbl8 ad e).1
          have h2 := (HB.out.new _ hm).2
          omega)
        clear hin8 hown8 hrow8 hbl8 hf8 hf57 HIN7 HAT7 e0 e1 e2 e3 k0 HDO
        go_upto_if 102 with (fail)
        go_cut [14] (fun v14 wx => v14 = uv now' ∧ w8 = wx)
        case first =>
          by_cases h0 : R.2.2 = 0
          · have hb : (R.2.2 == 0) = true := by rw [h0]; rfl
            have HE := hide (HDA.out.ok h0)
            clear h0
            go_wp2
            go_meet
            exact ⟨by rw [HE.out], rfl⟩
          · have hb : (R.2.2 == 0) = false := beq_eq_false_iff_ne.2 h0
            have HE := hide (HDA.out.bad h0).1
            clear h0
            go_wp2
            go_meet
            exact ⟨by rw [HE.out], rfl⟩
        case rest =>
          obtain ⟨rfl, rfl⟩ := hcut
          have hge := HDA.out.ge
          have hnear := HDA.out.near (by rw [HMN.out]; exact hn0)
          have hrun : Runs M now' s.act 0 R.2.1 ∧ R.1.act = actsF s.act R.2.1 := by
            by_cases h0 : R.2.2 = 0
            · exact HDA.out.run h0 0 (Nat.zero_le _)
            · obtain ⟨-, h2, h3⟩ := HDA.out.bad h0
              rw [h2, h3]
              exact ⟨trivial, rfl⟩
          have HAPP := hide (apply_any HAT8.out HOK.out HMN.out HLK.out R.2.1 (HAPr.out.later hge) (by unfold MaxT; omega) hrun.1 A8o c8o HROW8.out HOFF8.out (by omega))
          have HACT := hide hrun.2
          clear hrun
          go_wp2_with fail
          refine HAPP.out.mono ?_
          rintro e w9 ⟨rfl, st', hat9, hap9, hf9⟩
          rw [← HACT.out] at hap9
          have HST9 := hide HDA.out.st
          have HIN9 := hide (HIN8.out.fr hf9 HMGT.out)
          have HAT9 := hide hat9
          have HAP9 := hide hap9
          have hf59 : Fr (P.b :: P.g :: T.wr) w5 w9 := hf58.trans (hf9.mono (fun y _ hy => List.mem_cons_of_mem _ (List.mem_cons_of_mem _ hy)))
          have hbb9 := HBB5.out.fr hf59 HGB.out
          have HB9 := hide hbb9
          have k0 := hbb9.cell 0
          simp only [List.getElem?_toArray, List.getElem?_cons_zero] at k0
          clear hat9 hap9 hf9 hf58 HAPP HACT HIN8 HAT8 HAPr HINr HATr HDA hbb9 HROW8 HOFF8
          generalize R.1 = s' at HST9 HIN9 HAP9
          go_wp2
          go_roundg (l.length - (k + 1))
          case measure => rw [HM.out]; omega
          case rel => exact ⟨k + 1, now', s', st', by omega, rfl, by go_num, HIN9.out, HST9.out, by omega, HAT9.out, HAP9.out, hf59, rfl⟩
      · have b1 : decide ((k : Int) < (l.length : Int)) = true := decide_eq_true (by omega)
        have b2 : decide ((0 : Int) < (C.nd : Int)) = false := decide_eq_false (by omega)
        have HS0 := hide (St.more HSTr.out (show k ≤ 40 by omega))
        have hnow6 : now ≤ 600 := by omega
        clear HSTr
        go_wp2
        clear b1 b2 hn0 hlt
        go_loopg [21] C.nd (fun m i wz => RvO w5 T ds' C M P now m i wz)
        case atStart => exact ⟨0, s, st, by omega, rfl, HINr.out, HS0.out, fun j hj => by omega, HATr.out, HAPr.out, hfr, rfl⟩
        case round =>
          clear HINr HS0 HATr HAPr HBr k0 hs5r
          obtain ⟨q, s1, st1, hq, rfl, hin, hst, hall, hat, hap, hfq, hmm⟩ := hrel
          have HMq := hide hmm
          have HINq := hide hin
          have HSTq := hide hst
          have HALq := hide hall
          have HATq := hide hat
          have HAPq := hide hap
          have hbq := HBB5.out.fr hfq HGB.out
          have k0 := hbq.cell 0
          have k2 := hbq.cell 2
          simp only [List.getElem?_toArray, List.getElem?_cons_zero, List.getElem?_cons_succ] at k0 k2
          have hs5q := hfq.size
          clear hmm hin hst hall hat hap hbq
          by_cases hqn : q < C.nd
          · have hqi : (q : Int) < (C.nd : Int) := by omega
            have hus := usage28_any HINq.out (q : Int)
            rw [HMN.out, if_pos ⟨by omega, hqi⟩, Int.toNat_natCast] at hus
            have HUS := hide hus
            clear hus k2
            go_wp2_with fail
            refine HUS.out.mono ?_
            rintro e wz ⟨rfl, rfl⟩
            clear HUS
            go_wp2
            go_loopg [22] (s1.use q) (fun m i wz => RvI w5 T ds' C M P now q m i wz)
            case atStart => exact ⟨_, s1, st1, rfl, rfl, HINq.out, HSTq.out, HALq.out, HATq.out, HAPq.out, hfq, rfl⟩
            case round =>
              clear HINq HSTq HALq HATq HAPq
              obtain ⟨u, s2, st2, rfl, hu, hin, hst, hall, hat, hap, hfu, hmm⟩ := hrel
              have HMu := hide hmm
              have HU := hide hu
              have HINu := hide hin
              have HSTu := hide hst
              have HALu := hide hall
              have HATu := hide hat
              have HAPu := hide hap
              have hub := hst.use q
              rw [hu] at hub
              have hs5u := hfu.size
              clear hmm hu hin hst hall hat hap
              by_cases hu0 : 0 < u
              · obtain ⟨u1, hu1⟩ : ∃ u1, u1 = u - 1 := ⟨_, rfl⟩
                have hui : (0 : Int) < (u : Int) := by omega
                have hsub : ((u : Int) - 1) = (u1 : Int) := by omega
                have HPUT := hide (put_went HMO.out HSTu.out (q := q) (by rw [HU.out]; exact hu0) (by rw [HMN.out]; exact hqn) hnow6)
                have HU1 := hide hu1
                clear hu1
                go_wp2_with fail
                refine (put28_any HINu.out HMO.out (HSTu.out.sok (by omega) (by omega)) (by omega) (q : Int) now).mono ?_
                rintro e w6 ⟨v, rfl, hin6, hown6, hf6⟩
                generalize putC M s2 (q : Int) now = R at HPUT hin6 hown6 ⊢
                obtain ⟨A6, c6, rfl, -, hrow6, hbl6⟩ := own_slice hown6
                have HIN6 := hide hin6
                have HAT6 := hide (HATu.out.frUnder HWRB.out HHI.out hf6 HLOWP.out)
                have HROW6 := hide hrow6
                have hopl := HPUT.out.1.len
                have hz6 := hf6.size
                have hf56 : Fr (P.b :: P.g :: T.wr) w5 w6 := hfu.trans (hf6.mono (fun y _ hy => by simp at hy ⊢; omega))
                have HOFF6 : Hid (∀ ad, A6 = some ad → ad.block ∉ T.wr) := hide (fun ad e hm => by
                  have h1 := (hbl6 ad e).1
                  have h2 := (HB.out.new _ hm).2
                  omega)
                rw [HPUT.out.1.ok]
                clear hin6 hown6 hrow6 hbl6 hf6
                have HAPP := hide (apply_any HAT6.out HOK.out HMN.out HLK.out R.2.1 HAPu.out (by unfold MaxT; omega) HPUT.out.1.run A6 c6 HROW6.out HOFF6.out (by omega))
                go_wp2_with fail
                refine HAPP.out.mono ?_
                rintro e w7 ⟨rfl, st7, hat7, hap7, hf7⟩
                rw [← HPUT.out.1.act] at hap7
                have HIN7 := hide (HIN6.out.fr hf7 HMGT.out)
                have HAT7 := hide hat7
                have HAP7 := hide hap7
                have HE := hide (show R.1.use q = u1 ∧ ∀ j, j < q → R.1.use j = 0 by
                  rw [HPUT.out.2]
                  refine ⟨by rw [setF_self, HU.out, HU1.out], fun j hj => by rw [setF_ne _ _ (by omega)]; exact HALu.out j hj⟩)
                have hf57 : Fr (P.b :: P.g :: T.wr) w5 w7 := hf56.trans (hf7.mono (fun y _ hy => List.mem_cons_of_mem _ (List.mem_cons_of_mem _ hy)))
                clear hat7 hap7 hf7 HAPP
                go_wp2
                go_roundg u1
                case measure => rw [HMu.out, HU1.out]; omega
                case rel => exact ⟨u1, R.1, st7, rfl, HE.out.1, HIN7.out, HPUT.out.1.st, HE.out.2, HAT7.out, HAP7.out, hf57, rfl⟩
              · obtain rfl : u = 0 := by omega
                go_wp2
                go_roundg (C.nd - (q + 1))
                case measure => rw [HMq.out]; omega
                case rel => exact ⟨q + 1, s2, st2, by omega, by go_num, HINu.out, HSTu.out, (fun j hj => by
                  by_cases e : j = q
                  · subst e; exact HU.out
                  · exact HALu.out j (by omega)), HATu.out, HAPu.out, hfu, rfl⟩
          · have hqi : ¬ (q : Int) < (C.nd : Int) := by omega
            have hs0 : ∀ i, s1.use i = 0 := fun i => by
              by_cases hi : i < q
              · exact HALq.out i hi
              · cases hx : s1.use i with
                | zero => rfl
                | succ z =>
                  exfalso
                  have h1 := HSTq.out.good.up.dom i (HSTq.out.good.up.use i (by omega))
                  rw [HMN.out] at h1
                  omega
            have hadv := adv_went HMO.out HORD.out (by rw [HMN.out]; omega) HD11.out HSTq.out hs0 hnow6
            obtain ⟨t2, ht2⟩ : ∃ t2, t2 = now + 200 := ⟨_, rfl⟩
            rw [← ht2] at hadv
            have hsum : ((now : Int) + 200) = (t2 : Int) := by omega
            have hws : IntKind.u64.wrap ((now : Int) + 200) = (t2 : Int) := by rw [IntKind.wrap_u64]; omega
            have ht8 : t2 ≤ 800 := by omega
            have htn : now ≤ t2 := by omega
            have HADV := hide hadv
            clear hadv hs0 ht2
            rw [show uv now = Value.int .u64 (now : Int) from rfl]
            go_wp2_with fail
            refine (advance28_any HINq.out HMO.out (HSTq.out.sok (by omega) (by omega)) (by omega) t2).mono ?_
            rintro e w6 ⟨v, rfl, hin6, hown6, hf6⟩
            generalize advC M s1 t2 = R at HADV hin6 hown6 ⊢
            obtain ⟨A6, c6, rfl, -, hrow6, hbl6⟩ := own_slice hown6
            have HAT6 := hide (HATq.out.frUnder HWRB.out HHI.out hf6 HLOWP.out)
            have HROW6 := hide hrow6
            have hopl := HADV.out.1.len
            have hz6 := hf6.size
            have hf56 : Fr (P.b :: P.g :: T.wr) w5 w6 := hfq.trans (hf6.mono (fun y _ hy => by simp at hy ⊢; omega))
            have HOFF6 : Hid (∀ ad, A6 = some ad → ad.block ∉ T.wr) := hide (fun ad e hm => by
              have h1 := (hbl6 ad e).1
              have h2 := (HB.out.new _ hm).2
              omega)
            rw [HADV.out.1.ok]
            clear hin6 hown6 hrow6 hbl6 hf6 k0 k2
            have HAPP := hide (apply_any HAT6.out HOK.out HMN.out HLK.out R.2.1 (HAPq.out.later htn) (by unfold MaxT; omega) HADV.out.1.run A6 c6 HROW6.out HOFF6.out (by omega))
            go_wp2_with fail
            refine HAPP.out.mono ?_
            rintro e w7 ⟨rfl, st7, hat7, hap7, hf7⟩
            rw [← HADV.out.1.act] at hap7
            have HAT7 := hide hat7
            have HZ : Hid (∀ j, j < C.n → st7.r.cnt j = 0) := hide (fun j hj => by
              obtain ⟨rk, hr, hkk⟩ := HB.out.rank
              exact all4_zero hap7.inv (fun p hp => by rw [hap7.st p hp, if_neg (by rw [HADV.out.2 p]; decide)]) hr hkk hj)
            have hf57 : Fr (P.b :: P.g :: T.wr) w5 w7 := hf56.trans (hf7.mono (fun y _ hy => List.mem_cons_of_mem _ (List.mem_cons_of_mem _ hy)))
            have hbb7 := HBB5.out.fr hf57 HGB.out
            have k2 := hbb7.cell 2
            simp only [List.getElem?_toArray, List.getElem?_cons_zero, List.getElem?_cons_succ] at k2
            have hfw7 : Fr [] w w7 := hf05.step hf57 (fun y hy => .inr (HNEW0.out y hy))
            clear hat7 hap7 hf7 HAPP hbb7 hsum hws
            go_wp2
            go_loopg [27] C.n (fun m i wz => RvR w7 C.n m i wz)
            case atStart => exact ⟨0, by omega, rfl, rfl, rfl⟩
            case round =>
              obtain ⟨j, hj, rfl, rfl, hmm⟩ := hrel
              have HMj := hide hmm
              clear hmm
              by_cases hjn : j < C.n
              · have hji : (j : Int) < (C.n : Int) := by omega
                have hct : cntI T.pr st7.r (j : Int) = 0 := by rw [cntI, HAT7.out.pn, if_pos ⟨by omega, hji⟩, Int.toNat_natCast, HZ.out j hjn]
                have HCT := hide hct
                clear hct
                go_wp2_with fail
                refine (tcount_any HAT7.out (j : Int)).mono ?_
                rintro e w9 ⟨rfl, rfl⟩
                rw [HCT.out]
                go_wp2
                go_roundg (C.n - (j + 1))
                case measure => rw [HMj.out]; omega
                case rel => exact ⟨j + 1, by omega, by go_num, rfl, rfl⟩
              · have hji : ¬ (j : Int) < (C.n : Int) := by omega
                go_wp2_with fail
                refine (awake28_any _).mono ?_
                rintro e w9 ⟨rfl, hf9⟩
                go_wp2
                go_ret
                exact ⟨rfl, hfw7.call hf9⟩
    · have b1 : decide ((k : Int) < (l.length : Int)) = false := decide_eq_false (by omega)
      have HS0 := hide (St.more HSTr.out (show k ≤ 40 by omega))
      have hnow6 : now ≤ 600 := by omega
      clear HSTr
      go_wp2
      clear b1 hlt
      go_loopg [21] C.nd (fun m i wz => RvO w5 T ds' C M P now m i wz)
      case atStart => exact ⟨0, s, st, by omega, rfl, HINr.out, HS0.out, fun j hj => by omega, HATr.out, HAPr.out, hfr, rfl⟩
      case round =>
        clear HINr HS0 HATr HAPr HBr k0 hs5r
        obtain ⟨q, s1, st1, hq, rfl, hin, hst, hall, hat, hap, hfq, hmm⟩ := hrel
        have HMq := hide hmm
        have HINq := hide hin
        have HSTq := hide hst
        have HALq := hide hall
        have HATq := hide hat
        have HAPq := hide hap
        have hbq := HBB5.out.fr hfq HGB.out
        have k0 := hbq.cell 0
        have k2 := hbq.cell 2
        simp only [List.getElem?_toArray, List.getElem?_cons_zero, List.getElem?_cons_succ] at k0 k2
        have hs5q := hfq.size
        clear hmm hin hst hall hat hap hbq
        by_cases hqn : q < C.nd
        · have hqi : (q : Int) < (C.nd : Int) := by omega
          have hus := usage28_any HINq.out (q : Int)
          rw [HMN.out, if_pos ⟨by omega, hqi⟩, Int.toNat_natCast] at hus
          have HUS := hide hus
          clear hus k2
          go_wp2_with fail
          refine HUS.out.mono ?_
          rintro e wz ⟨rfl, rfl⟩
          clear HUS
          go_wp2
          go_loopg [22] (s1.use q) (fun m i wz => RvI w5 T ds' C M P now q m i wz)
          case atStart => exact ⟨_, s1, st1, rfl, rfl, HINq.out, HSTq.out, HALq.out, HATq.out, HAPq.out, hfq, rfl⟩
          case round =>
            clear HINq HSTq HALq HATq HAPq
            obtain ⟨u, s2, st2, rfl, hu, hin, hst, hall, hat, hap, hfu, hmm⟩ := hrel
            have HMu := hide hmm
            have HU := hide hu
            have HINu := hide hin
            have HSTu := hide hst
            have HALu := hide hall
            have HATu := hide hat
            have HAPu := hide hap
            have hub := hst.use q
            rw [hu] at hub
            have hs5u := hfu.size
            clear hmm hu hin hst hall hat hap
            by_cases hu0 : 0 < u
            · obtain ⟨u1, hu1⟩ : ∃ u1, u1 = u - 1 := ⟨_, rfl⟩
              have hui : (0 : Int) < (u : Int) := by omega
              have hsub : ((u : Int) - 1) = (u1 : Int) := by omega
              have HPUT := hide (put_went HMO.out HSTu.out (q := q) (by rw [HU.out]; exact hu0) (by rw [HMN.out]; exact hqn) hnow6)
              have HU1 := hide hu1
              clear hu1
              go_wp2_with fail
              refine (put28_any HINu.out HMO.out (HSTu.out.sok (by omega) (by omega)) (by omega) (q : Int) now).mono ?_
              rintro e w6 ⟨v, rfl, hin6, hown6, hf6⟩
              generalize putC M s2 (q : Int) now = R at HPUT hin6 hown6 ⊢
              obtain ⟨A6, c6, rfl, -, hrow6, hbl6⟩ := own_slice hown6
              have HIN6 := hide hin6
              have HAT6 := hide (HATu.out.frUnder HWRB.out HHI.out hf6 HLOWP.out)
              have HROW6 := hide hrow6
              have hopl := HPUT.out.1.len
              have hz6 := hf6.size
              have hf56 : Fr (P.b :: P.g :: T.wr) w5 w6 := hfu.trans (hf6.mono (fun y _ hy => by simp at hy ⊢; omega))
              have HOFF6 : Hid (∀ ad, A6 = some ad → ad.block ∉ T.wr) := hide (fun ad e hm => by
                have h1 := (hbl6 ad e).1
                have h2 := (HB.out.new _ hm).2
                omega)
              rw [HPUT.out.1.ok]
              clear hin6 hown6 hrow6 hbl6 hf6
              have HAPP := hide (apply_any HAT6.out HOK.out HMN.out HLK.out R.2.1 HAPu.out (by unfold MaxT; omega) HPUT.out.1.run A6 c6 HROW6.out HOFF6.out (by omega))
              go_wp2_with fail
              refine HAPP.out.mono ?_
              rintro e w7 ⟨rfl, st7, hat7, hap7, hf7⟩
              rw [← HPUT.out.1.act] at hap7
              have HIN7 := hide (HIN6.out.fr hf7 HMGT.out)
              have HAT7 := hide hat7
              have HAP7 := hide hap7
              have HE := hide (show R.1.use q = u1 ∧ ∀ j, j < q → R.1.use j = 0 by
                rw [HPUT.out.2]
                refine ⟨by rw [setF_self, HU.out, HU1.out], fun j hj => by rw [setF_ne _ _ (by omega)]; exact HALu.out j hj⟩)
              have hf57 : Fr (P.b :: P.g :: T.wr) w5 w7 := hf56.trans (hf7.mono (fun y _ hy => List.mem_cons_of_mem _ (List.mem_cons_of_mem _ hy)))
              clear hat7 hap7 hf7 HAPP
              go_wp2
              go_roundg u1
              case measure => rw [HMu.out, HU1.out]; omega
              case rel => exact ⟨u1, R.1, st7, rfl, HE.out.1, HIN7.out, HPUT.out.1.st, HE.out.2, HAT7.out, HAP7.out, hf57, rfl⟩
            · obtain rfl : u = 0 := by omega
              go_wp2
              go_roundg (C.nd - (q + 1))
              case measure => rw [HMq.out]; omega
              case rel => exact ⟨q + 1, s2, st2, by omega, by go_num, HINu.out, HSTu.out, (fun j hj => by
                by_cases e : j = q
                · subst e; exact HU.out
                · exact HALu.out j (by omega)), HATu.out, HAPu.out, hfu, rfl⟩
        · have hqi : ¬ (q : Int) < (C.nd : Int) := by omega
          have hs0 : ∀ i, s1.use i = 0 := fun i => by
            by_cases hi : i < q
            · exact HALq.out i hi
            · cases hx : s1.use i with
              | zero => rfl
              | succ z =>
                exfalso
                have h1 := HSTq.out.good.up.dom i (HSTq.out.good.up.use i (by omega))
                rw [HMN.out] at h1
                omega
          have hadv := adv_went HMO.out HORD.out (by rw [HMN.out]; omega) HD11.out HSTq.out hs0 hnow6
          obtain ⟨t2, ht2⟩ : ∃ t2, t2 = now + 200 := ⟨_, rfl⟩
          rw [← ht2] at hadv
          have hsum : ((now : Int) + 200) = (t2 : Int) := by omega
          have hws : IntKind.u64.wrap ((now : Int) + 200) = (t2 : Int) := by rw [IntKind.wrap_u64]; omega
          have ht8 : t2 ≤ 800 := by omega
          have htn : now ≤ t2 := by omega
          have HADV := hide hadv
          clear hadv hs0 ht2
          rw [show uv now = Value.int .u64 (now : Int) from rfl]
          go_wp2_with fail
          refine (advance28_any HINq.out HMO.out (HSTq.out.sok (by omega) (by omega)) (by omega) t2).mono ?_
          rintro e w6 ⟨v, rfl, hin6, hown6, hf6⟩
          generalize advC M s1 t2 = R at HADV hin6 hown6 ⊢
          obtain ⟨A6, c6, rfl, -, hrow6, hbl6⟩ := own_slice hown6
          have HAT6 := hide (HATq.out.frUnder HWRB.out HHI.out hf6 HLOWP.out)
          have HROW6 := hide hrow6
          have hopl := HADV.out.1.len
          have hz6 := hf6.size
          have hf56 : Fr (P.b :: P.g :: T.wr) w5 w6 := hfq.trans (hf6.mono (fun y _ hy => by simp at hy ⊢; omega))
          have HOFF6 : Hid (∀ ad, A6 = some ad → ad.block ∉ T.wr) := hide (fun ad e hm => by
            have h1 := (hbl6 ad e).1
            have h2 := (HB.out.new _ hm).2
            omega)
          rw [HADV.out.1.ok]
          clear hin6 hown6 hrow6 hbl6 hf6 k0 k2
          have HAPP := hide (apply_any HAT6.out HOK.out HMN.out HLK.out R.2.1 (HAPq.out.later htn) (by unfold MaxT; omega) HADV.out.1.run A6 c6 HROW6.out HOFF6.out (by omega))
          go_wp2_with fail
          refine HAPP.out.mono ?_
          rintro e w7 ⟨rfl, st7, hat7, hap7, hf7⟩
          rw [← HADV.out.1.act] at hap7
          have HAT7 := hide hat7
          have HZ : Hid (∀ j, j < C.n → st7.r.cnt j = 0) := hide (fun j hj => by
            obtain ⟨rk, hr, hkk⟩ := HB.out.rank
            exact all4_zero hap7.inv (fun p hp => by rw [hap7.st p hp, if_neg (by rw [HADV.out.2 p]; decide)]) hr hkk hj)
          have hf57 : Fr (P.b :: P.g :: T.wr) w5 w7 := hf56.trans (hf7.mono (fun y _ hy => List.mem_cons_of_mem _ (List.mem_cons_of_mem _ hy)))
          have hbb7 := HBB5.out.fr hf57 HGB.out
          have k2 := hbb7.cell 2
          simp only [List.getElem?_toArray, List.getElem?_cons_zero, List.getElem?_cons_succ] at k2
          have hfw7 : Fr [] w w7 := hf05.step hf57 (fun y hy => .inr (HNEW0.out y hy))
          clear hat7 hap7 hf7 HAPP hbb7 hsum hws
          go_wp2
          go_loopg [27] C.n (fun m i wz => RvR w7 C.n m i wz)
          case atStart => exact ⟨0, by omega, rfl, rfl, rfl⟩
          case round =>
            obtain ⟨j, hj, rfl, rfl, hmm⟩ := hrel
            have HMj := hide hmm
            clear hmm
            by_cases hjn : j < C.n
            · have hji : (j : Int) < (C.n : Int) := by omega
              have hct : cntI T.pr st7.r (j : Int) = 0 := by rw [cntI, HAT7.out.pn, if_pos ⟨by omega, hji⟩, Int.toNat_natCast, HZ.out j hjn]
              have HCT := hide hct
              clear hct
              go_wp2_with fail
              refine (tcount_any HAT7.out (j : Int)).mono ?_
              rintro e w9 ⟨rfl, rfl⟩
              rw [HCT.out]
              go_wp2
              go_roundg (C.n - (j + 1))
              case measure => rw [HMj.out]; omega
              case rel => exact ⟨j + 1, by omega, by go_num, rfl, rfl⟩
            · have hji : ¬ (j : Int) < (C.n : Int) := by omega
              go_wp2_with fail
              refine (awake28_any _).mono ?_
              rintro e w9 ⟨rfl, hf9⟩
              go_wp2
              go_ret
              exact ⟨rfl, hfw7.call hf9⟩
end Go.Proofs.Ytdocdgghphhdpaa

