/- The law RuntimepmSuppliersActive, walked. -/
import Derived.Test.YtbnfdpemfmeldaaRpmL0
import Derived.Test.YtbnfdpemfmeldaaRpmP5
namespace Go.Proofs.Ytbnfdpemfmeldaa
open Go.RowKit

def SaRel (w3 : World) (P : ML) (out : List ID) (l : List CL) (m : Nat) (t i : Value) (wr : World) : Prop :=
  ∃ (k : Nat) (s : RS) (now : Nat), k ≤ l.length ∧ i = .int .i64 (k : Int) ∧ t = uv now ∧ MgIn wr P (newRM out) s ∧ St (newRM out) s now k ∧ now ≤ 1152921504606846976 ∧ (0 < (newRM out).n → now ≤ 15 * k) ∧ Fr [P.b, P.g] w3 wr ∧ m = l.length - k
def Sa2 (w8 : World) (n : Nat) (m : Nat) (i : Value) (wr : World) : Prop := ∃ j : Nat, j ≤ n ∧ i = .int .i64 (j : Int) ∧ w8 = wr ∧ m = n - j
set_option maxHeartbeats 8000000 in
set_option maxRecDepth 100000 in
theorem suppliers_walk (A B : Option Addr) (cp cq : Nat) (raw : List ID) (l : List CL) (w : World) (hr : Row w A (idcs raw)) (hw : ∀ x ∈ raw, IdWf w x) (hm : raw.length ≤ maxLen) (hl : Row w B (clcs l)) (hlm : l.length ≤ maxLen) (hlw : ∀ c ∈ l, c.wait ≤ 18446744073709551615) :
    Calls Try.prog 9 #[.slice A raw.length cp, .slice B l.length cq] w fun e w' => e = .returned (.bool true) ∧ Fr [] w w' := by
  have HR : Hid (IdsAt w A raw) := hide ⟨hr, fun x hx => (hw x hx).at_⟩
  have HL := hide hl
  have HLW := hide hlw
  clear hr hw hl hlw
  go_enter Try.func9, Try.ntmps9
  go_wp2_with fail
  refine (large28_any A B cp cq l.length raw w HR.out hm hlm).mono ?_
  rintro e w1 ⟨big, rfl, hlg, rfl⟩
  cases big with
  | true =>
    go_wp2_with fail
    refine (awake28_any w).mono ?_
    rintro e w7 ⟨rfl, hf7⟩
    go_wp2
    go_ret
    exact ⟨rfl, hf7⟩
  | false =>
  obtain ⟨hr20, hl40, hs20⟩ := hlg rfl
  have HS20 := hide hs20
  clear hlg hs20 hm hlm
  go_wp2_with fail
  refine (some28_any A cp raw w HR.out hr20 HS20.out).mono ?_
  rintro e w2 ⟨v2, out, rfl, hown, hsup, hdev, hf2⟩
  obtain ⟨A5, c5, rfl, -, -, -⟩ := own_slice hown
  have HOUT := hide (ids_stay hown hsup)
  have HDEV := hide hdev
  have ho8 := hdev.len
  clear hown hsup hdev
  go_wp2_with fail
  refine (new28_ok A5 c5 out w2 (HOUT.out [] w2 (Fr.refl _ _) (by simp)) (by omega) (fun x hx => by obtain ⟨i, hi⟩ := List.getElem?_of_mem hx; have := HDEV.out.sl i x hi; omega) HDEV.out.new.1).mono ?_
  rintro e w3 ⟨P, rfl, hin, hb, hg, htop, hf3, -⟩
  have HMO := hide HDEV.out.new.2.1
  have HORD := hide HDEV.out.new.2.2.1
  have HIN := hide hin
  have HST := hide (St.zero (newRM out))
  have hlow := hin.low
  clear hin
  go_wp2
  go_loopg [8, 9] l.length (fun m t i wr => SaRel w3 P out l m t i wr)
  case atStart => exact ⟨0, zeroS, 0, by omega, rfl, rfl, HIN.out, HST.out, by omega, fun _ => by omega, Fr.refl _ _, rfl⟩
  case round =>
    obtain ⟨k, s, now, hk, rfl, rfl, hin, hst, hnow, hnow1, hfr, hmm⟩ := hrel
    have HM := hide hmm
    have HINr := hide hin
    have HSTr := hide hst
    have hf2r : Fr [] w2 wr := Fr.two hf3 hfr hb hg
    have hfwr : Fr [] w wr := hf2.call hf2r
    clear hmm hin hst
    by_cases hlt : k < l.length
    · obtain ⟨c, hc⟩ : ∃ c, l[k]? = some c := ⟨_, List.getElem?_eq_getElem hlt⟩
      obtain ⟨ob, oo, rfl, c0, c1, c2, c3⟩ := (HL.out.fr0 hfwr).cl hc
      have hkl : (k : Int) < (l.length : Int) := by omega
      have hnow15 : 0 < (newRM out).n → now + 15 ≤ 1152921504606846976 := fun h => by have := hnow1 h; omega
      have hb5 := clr_blk (w := wr) c
      have hf5 := clr_fr (w := wr) c
      have HN1 := hide hnow1
      have HN15 := hide hnow15
      clear hc hnow1 hnow15
      go_upto_region 13 with (fail)
      generalize wr.alloc (.cells #[.int .i64 c.kind, .int .i64 c.dev, .int .u64 (c.wait : Int), .bool false] 54) = w5 at hb5 hf5 ⊢
      generalize wr.heap.size = gc at hb5 ⊢
      obtain ⟨now2, hdo⟩ := do_any (M := newRM out) HORD.out HSTr.out (clr c) rfl hnow HN15.out
      rw [show (newRM out).n = out.length from rfl] at hdo
      obtain ⟨R, hR⟩ : ∃ R, R = doC (newRM out) s (clr c) now := ⟨_, rfl⟩
      rw [← hR] at hdo
      have HRD := hide hR
      have HDO := hide hdo
      clear hR hdo
      have e0 : w5.cell? ⟨gc, 0, none⟩ = some (.int .i64 c.kind) := hb5.cell 0
      have e1 : w5.cell? ⟨gc, 1, none⟩ = some (.int .i64 c.dev) := hb5.cell 1
      have e2 : w5.cell? ⟨gc, 2, none⟩ = some (.int .u64 (c.wait : Int)) := hb5.cell 2
      have e3 : w5.cell? ⟨gc, 3, none⟩ = some (.bool false) := hb5.cell 3
      go_wp2_with fail
      refine (at28_any (clr c) out.length now w5 (by omega) hnow).mono ?_
      rintro e w6 ⟨rfl, hf6⟩
      generalize (atM (clr c) out.length now).1 = ad at HDO ⊢
      generalize (atM (clr c) out.length now).2 = tt at HDO ⊢
      have HB6 := hide (hb5.fr hf6 (by simp))
      clear e0 e1 e2 e3 hb5 c0 c1 c2 c3
      have e0 : w6.cell? ⟨gc, 0, none⟩ = some (.int .i64 c.kind) := HB6.out.cell 0
      have e1 : w6.cell? ⟨gc, 1, none⟩ = some (.int .i64 c.dev) := HB6.out.cell 1
      have e2 : w6.cell? ⟨gc, 2, none⟩ = some (.int .u64 (c.wait : Int)) := HB6.out.cell 2
      have e3 : w6.cell? ⟨gc, 3, none⟩ = some (.bool false) := HB6.out.cell 3
      have hf56 := hf5.call hf6
      have HIN6 := hide (HINr.out.fr0 hf56)
      have hz6 := hf56.size
      have hzr := hfr.size
      go_wp2_with fail
      refine (do28_any HIN6.out HMO.out (HSTr.out.sok hnow (by omega)) (by omega) (fun i => by have := HSTr.out.use i; omega) (clr c) now hnow).mono ?_
      rintro e w7 ⟨v, rfl, hin7, hown7, hf7⟩
      rw [← HRD.out] at hin7 hown7 ⊢
      clear e0 e1 e2 e3
      have HIN7 := hide hin7
      have hfr7 : Fr [P.b, P.g] w3 w7 := (hfr.call hf56).trans hf7
      obtain ⟨A7, c7, rfl, -, -, -⟩ := own_slice hown7
      have hf27 : Fr [] w2 w7 := Fr.two hf3 hfr7 hb hg
      have hfw7 : Fr [] w w7 := hf2.call hf27
      have HIDS : Hid (IdsAt w7 A5 out) := hide (HOUT.out [] w7 hf27 (by simp))
      have HEQ0 : Hid ((R.2.2 == 0) = true → now2 = tt) := hide (fun e => HDO.out.ok (by simpa using e))
      have HEQ1 : Hid ((R.2.2 == 0) = false → now2 = now) := hide (fun e => (HDO.out.bad (by simpa using e)).1)
      have HST7 := hide HDO.out.st
      have HLE := hide (And.intro HDO.out.le HDO.out.near)
      have HUP := hide HDO.out.st.good.up
      clear hin7 hown7 hf7 HRD HDO
      obtain ⟨s1, ops, er⟩ := R
      dsimp only at HIN7 HST7 HUP HEQ0 HEQ1 ⊢
      generalize hbe : (er == 0) = be at HEQ0 HEQ1
      go_upto_if 63 with (fail)
      go_cut [8] (fun s8 wx => s8 = uv now2 ∧ w7 = wx)
      case first =>
        cases be with
        | true =>
          have e := HEQ0.out rfl
          clear hbe
          go_wp2_with fail
          go_meet
          exact ⟨by rw [e], rfl⟩
        | false =>
          have e := HEQ1.out rfl
          clear hbe
          go_wp2_with fail
          go_meet
          exact ⟨by rw [e], rfl⟩
      case rest =>
        obtain ⟨rfl, rfl⟩ := hcut
        clear hbe
        go_wp2
        go_loopg [15] out.length (fun m i wr => Sa2 w7 out.length m i wr)
        case atStart => exact ⟨0, by omega, rfl, rfl, rfl⟩
        case round =>
          obtain ⟨j, hj, rfl, rfl, hmm⟩ := hrel
          have HM2 := hide hmm
          clear hmm
          by_cases hjl : j < out.length
          · obtain ⟨d, hd⟩ : ∃ d, out[j]? = some d := ⟨_, List.getElem?_eq_getElem hjl⟩
            obtain ⟨o1, o2, A', cp', rfl, -, d0, d1, d2, hrs⟩ := HIDS.out.el hd
            have hji : (j : Int) < (out.length : Int) := by omega
            have hjk : (0 : Int) ≤ (j : Int) ∧ (j : Int) < ((newRM out).n : Int) := ⟨by omega, hji⟩
            have hus := usage28_any HIN7.out (j : Int)
            rw [if_pos hjk, Int.toNat_natCast] at hus
            have hac := active28_any HIN7.out (j : Int)
            rw [decide_eq_true hjk, Int.toNat_natCast] at hac
            have HUS := hide hus
            have HAC := hide hac
            have HRS := hide hrs
            have HPR := hide (fun (p : Int) (hp : (0 ≤ d.par ∧ p = d.par) ∨ p ∈ d.sup) => mem_newL HDEV.out hd hp)
            have hdp := HDEV.out.par j d hd
            have hds := HDEV.out.sl j d hd
            have HSB := hide (HDEV.out.sup j d hd)
            have hu40 := HST7.out.use j
            clear hus hac hrs hjk hd
            cases hact : s1.act j with
            | false =>
              have hu0 : s1.use j = 0 := by
                by_cases h : 0 < s1.use j
                · have := HUP.out.use j h
                  rw [hact] at this
                  cases this
                · omega
              rw [hu0] at HUS
              rw [hact] at HAC
              clear hact hu0 hu40
              go_wp2_with fail
              refine HUS.out.mono ?_
              rintro e w8 ⟨rfl, rfl⟩
              go_wp2_with fail
              refine HUS.out.mono ?_
              rintro e w8 ⟨rfl, rfl⟩
              go_wp2_with fail
              refine HAC.out.mono ?_
              rintro e w8 ⟨rfl, rfl⟩
              go_wp2
              go_roundg (out.length - (j + 1))
              case measure => rw [HM2.out]; omega
              case rel => exact ⟨j + 1, by omega, by go_num, rfl, rfl⟩
            | true =>
              have HSU : Hid (∀ p : Int, ((0 ≤ d.par ∧ p = d.par) ∨ p ∈ d.sup) → 0 ≤ p → p < (out.length : Int) → Calls Try.prog 25 #[.pointer (some ⟨P.b, 0, none⟩), .int .i64 p] w7 fun e w' => e = .returned (.bool true) ∧ w7 = w') := hide (fun p hp h0 h1 => by
                have h2 := HUP.out.sup _ (HPR.out p hp) hact
                have h3 := active28_any HIN7.out p
                rw [decide_eq_true (show 0 ≤ p ∧ p < ((newRM out).n : Int) from ⟨h0, h1⟩), h2] at h3
                exact h3)
              rw [hact] at HAC
              clear hact
              by_cases hu0 : 0 < s1.use j
              all_goals
                first
                  | (have hub : (0 : Int) < (s1.use j : Int) := by omega)
                  | (have hub : ¬ (0 : Int) < (s1.use j : Int) := by omega)
                have hun : ¬ (s1.use j : Int) < 0 := by omega
                go_wp2_with fail
                refine HUS.out.mono ?_
                rintro e w8 ⟨rfl, rfl⟩
                go_wp2_with fail
                refine HUS.out.mono ?_
                rintro e w8 ⟨rfl, rfl⟩
                go_wp2_with fail
                refine HAC.out.mono ?_
                rintro e w8 ⟨rfl, rfl⟩
                try
                  (have hx : 0 < s1.use j := hu0
                   go_wp2_with fail
                   refine HAC.out.mono ?_
                   rintro e w8 ⟨rfl, rfl⟩)
                clear hu0 hub hun hu40
                by_cases hp0 : 0 ≤ d.par
                all_goals
                  try
                    (have hx : 0 ≤ d.par := hp0
                     go_wp2_with fail
                     refine (HSU.out d.par (.inl ⟨hp0, rfl⟩) hp0 hdp.2).mono ?_
                     rintro e w8 ⟨rfl, rfl⟩)
                  go_wp2
                  go_loopg [16] d.sup.length (fun m i wr => Sa2 w7 d.sup.length m i wr)
                  case atStart => exact ⟨0, by omega, rfl, rfl, rfl⟩
                  case round =>
                    obtain ⟨q, hq, rfl, rfl, hmm⟩ := hrel
                    have HM4 := hide hmm
                    clear hmm hp0
                    by_cases hql : q < d.sup.length
                    · obtain ⟨y, hy⟩ : ∃ y, d.sup[q]? = some y := ⟨_, List.getElem?_eq_getElem hql⟩
                      obtain ⟨o3, o4, rfl, cy⟩ := HRS.out.int hy
                      have hym := List.mem_of_getElem? hy
                      have hyb := HSB.out y hym
                      have hqi : (q : Int) < (d.sup.length : Int) := by omega
                      have HY := hide (HSU.out y (.inr hym) hyb.1 hyb.2)
                      clear hy hym hyb
                      go_wp2_with fail
                      refine HY.out.mono ?_
                      rintro e w8 ⟨rfl, rfl⟩
                      go_wp2
                      go_roundg (d.sup.length - (q + 1))
                      case measure => rw [HM4.out]; omega
                      case rel => exact ⟨q + 1, by omega, by go_num, rfl, rfl⟩
                    · have hqi : ¬ (q : Int) < (d.sup.length : Int) := by omega
                      go_wp2
                      go_roundg (out.length - (j + 1))
                      case measure => rw [HM2.out]; omega
                      case rel => exact ⟨j + 1, by omega, by go_num, rfl, rfl⟩
          · have hji : ¬ (j : Int) < (out.length : Int) := by omega
            have hle := HLE.out.1
            have hnear := HLE.out.2
            have hn1 := HN1.out
            have HNN : Hid (0 < (newRM out).n → now2 ≤ 15 * (k + 1)) := hide (fun h => by have := hnear h; have := hn1 h; omega)
            clear hnear hn1
            go_wp2
            go_roundg (l.length - (k + 1))
            case measure => rw [HM.out]; omega
            case rel => exact ⟨k + 1, s1, now2, by omega, by go_num, rfl, HIN7.out, HST7.out, hle, HNN.out, hfr7, rfl⟩
    · have hkl : ¬ (k : Int) < (l.length : Int) := by omega
      go_wp2_with fail
      refine (awake28_any wr).mono ?_
      rintro e w7 ⟨rfl, hf7⟩
      go_wp2
      go_ret
      exact ⟨rfl, hfwr.call hf7⟩
end Go.Proofs.Ytbnfdpemfmeldaa
