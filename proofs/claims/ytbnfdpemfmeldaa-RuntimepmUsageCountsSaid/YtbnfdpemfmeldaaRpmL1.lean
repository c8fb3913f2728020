/- The law RuntimepmUsageCounts, walked. -/
import Derived.Test.YtbnfdpemfmeldaaRpmL0
namespace Go.Proofs.Ytbnfdpemfmeldaa
open Go.RowKit

def useI (s : RS) (i : Nat) : Int := (s.use i : Int)
def UcRel (w4 : World) (P : ML) (out : List ID) (gu : Nat) (l : List CL) (m : Nat) (t i : Value) (wr : World) : Prop :=
  ∃ (k : Nat) (s : RS) (now : Nat), k ≤ l.length ∧ i = .int .i64 (k : Int) ∧ t = uv now ∧ MgIn wr P (newRM out) s ∧ St (newRM out) s now k ∧ now ≤ 15 * k ∧ FA wr gu 3 iv out.length (useI s) ∧ Fr [P.b, P.g, gu] w4 wr ∧ m = l.length - k
def UcCut (w7 : World) (gu n : Nat) (s : RS) (wx : World) : Prop := FA wx gu 3 iv n (useI s) ∧ Fr [gu] w7 wx
def Uc2 (w6 : World) (n : Nat) (m : Nat) (i : Value) (wr : World) : Prop := ∃ j : Nat, j ≤ n ∧ i = .int .i64 (j : Int) ∧ Fr [] w6 wr ∧ m = n - j
set_option maxHeartbeats 8000000 in
set_option maxRecDepth 100000 in
theorem usage_walk (A B : Option Addr) (cp cq : Nat) (raw : List ID) (l : List CL) (w : World) (hr : Row w A (idcs raw)) (hw : ∀ x ∈ raw, IdWf w x) (hm : raw.length ≤ maxLen) (hl : Row w B (clcs l)) (hlm : l.length ≤ maxLen) (hlw : ∀ c ∈ l, c.wait ≤ 18446744073709551615) :
    Calls Try.prog 7 #[.slice A raw.length cp, .slice B l.length cq] w fun e w' => e = .returned (.bool true) ∧ Fr [] w w' := by
  have HR : Hid (IdsAt w A raw) := hide ⟨hr, fun x hx => (hw x hx).at_⟩
  have HL := hide hl
  have HLW := hide hlw
  clear hr hw hl hlw
  go_enter Try.func7, Try.ntmps7
  go_wp2_with fail
  refine (large28_any A B cp cq l.length raw w HR.out hm hlm).mono ?_
  rintro e w1 ⟨big, rfl, hlg, rfl⟩
  cases big with
  | true =>
    go_wp2_with fail
    refine (awake28_any w).mono ?_
    rintro e w7 ⟨rfl, hf7⟩
    go_wp2
    go_ret
    exact ⟨rfl, hf7⟩
  | false =>
  obtain ⟨hr20, hl40, hs20⟩ := hlg rfl
  have HS20 := hide hs20
  clear hlg hs20 hm hlm
  go_wp2_with fail
  refine (some28_any A cp raw w HR.out hr20 HS20.out).mono ?_
  rintro e w2 ⟨v2, out, rfl, hown, hsup, hdev, hf2⟩
  obtain ⟨A5, c5, rfl, -, -, -⟩ := own_slice hown
  have HOUT := hide (ids_stay hown hsup)
  have HDEV := hide hdev
  have ho8 := hdev.len
  clear hown hsup hdev
  go_wp2_with fail
  refine (new28_ok A5 c5 out w2 (HOUT.out [] w2 (Fr.refl _ _) (by simp)) (by omega) (fun x hx => by obtain ⟨i, hi⟩ := List.getElem?_of_mem hx; have := HDEV.out.sl i x hi; omega) HDEV.out.new.1).mono ?_
  rintro e w3 ⟨P, rfl, hin, hb, hg, htop, hf3⟩
  have HMO := hide HDEV.out.new.2.1
  have HORD := hide HDEV.out.new.2.2.1
  have HIN := hide hin
  have HST := hide (St.zero (newRM out))
  have hlow := hin.low
  clear hin
  have hmk := make_ints out.length out.length (Nat.le_refl _) (by omega) w3
  have hfa := FA.new w3 3 iv (0 : Int) out.length
  have hf4 : Fr [] w3 (w3.alloc (.cells (Array.replicate out.length (.int .i64 0)) 3)) := (Fr.refl _ _).alloc _
  go_upto_region 8 with (fail)
  clear hmk
  generalize w3.alloc (.cells (Array.replicate out.length (.int .i64 0)) 3) = w4 at hfa hf4 ⊢
  generalize w3.heap.size = gu at hfa htop ⊢
  have HFA := hide hfa
  have HIN4 := hide (HIN.out.fr0 hf4)
  have hf24 := hf3.call hf4
  have hfw4 := hf2.call hf24
  have hz2 := hf24.size
  have hzw := hf2.size
  have hgu : w2.heap.size ≤ gu := by omega
  have hgul := hfa.lt
  clear hfa HIN hf3 hf4
  go_wp2
  go_loopg [9, 10] l.length (fun m t i wr => UcRel w4 P out gu l m t i wr)
  case atStart => exact ⟨0, zeroS, 0, by omega, rfl, rfl, HIN4.out, HST.out, by omega, HFA.out, Fr.refl _ _, rfl⟩
  case round =>
    obtain ⟨k, s, now, hk, rfl, rfl, hin, hst, hnow, hfa, hfr, hmm⟩ := hrel
    have HM := hide hmm
    have HINr := hide hin
    have HSTr := hide hst
    have HFAr := hide hfa
    have hf2r : Fr [] w2 wr := hf24.step hfr (fun i hi => .inr (by simp at hi; rcases hi with rfl | rfl | rfl <;> omega))
    have hfwr : Fr [] w wr := hf2.call hf2r
    clear hmm hin hst hfa
    by_cases hlt : k < l.length ∧ 0 < out.length
    · obtain ⟨hlt, hn0⟩ := hlt
      obtain ⟨c, hc⟩ : ∃ c, l[k]? = some c := ⟨_, List.getElem?_eq_getElem hlt⟩
      obtain ⟨ob, oo, rfl, c0, c1, c2, c3⟩ := (HL.out.fr0 hfwr).cl hc
      have hkl : (k : Int) < (l.length : Int) := by omega
      have hni : (0 : Int) < (out.length : Int) := by omega
      have hb5 := clr_blk (w := wr) c
      have hf5 := clr_fr (w := wr) c
      clear hc
      go_upto_region 14 with (fail)
      generalize wr.alloc (.cells #[.int .i64 c.kind, .int .i64 c.dev, .int .u64 (c.wait : Int), .bool false] 54) = w5 at hb5 hf5 ⊢
      have hgc0 := HFAr.out.lt
      generalize wr.heap.size = gc at hb5 hgc0 ⊢
      have hstep := do_step (M := newRM out) HORD.out HSTr.out (clr c) rfl hn0 (by omega)
      rw [show (newRM out).n = out.length from rfl] at hstep
      obtain ⟨hat, hd, hcs⟩ := hstep
      obtain ⟨R, hR⟩ : ∃ R, R = doC (newRM out) s (clr c) now := ⟨_, rfl⟩
      rw [← hR] at hcs
      have HRD := hide hR
      have HAT := hide hat
      have HCS := hide hcs
      have hlt15 : (clr c).wait % 15 < 15 := Nat.mod_lt _ (by omega)
      clear hR hat hcs
      have e0 : w5.cell? ⟨gc, 0, none⟩ = some (.int .i64 c.kind) := hb5.cell 0
      have e1 : w5.cell? ⟨gc, 1, none⟩ = some (.int .i64 c.dev) := hb5.cell 1
      have e2 : w5.cell? ⟨gc, 2, none⟩ = some (.int .u64 (c.wait : Int)) := hb5.cell 2
      have e3 : w5.cell? ⟨gc, 3, none⟩ = some (.bool false) := hb5.cell 3
      go_wp2_with fail
      refine (at28_any (clr c) out.length now w5 (by omega) (by omega)).mono ?_
      rintro e w6 ⟨rfl, hf6⟩
      rw [HAT.out]
      dsimp only
      have HB6 := hide (hb5.fr hf6 (by simp))
      clear e0 e1 e2 e3 hb5 c0 c1 c2 c3
      have e0 : w6.cell? ⟨gc, 0, none⟩ = some (.int .i64 c.kind) := HB6.out.cell 0
      have e1 : w6.cell? ⟨gc, 1, none⟩ = some (.int .i64 c.dev) := HB6.out.cell 1
      have e2 : w6.cell? ⟨gc, 2, none⟩ = some (.int .u64 (c.wait : Int)) := HB6.out.cell 2
      have e3 : w6.cell? ⟨gc, 3, none⟩ = some (.bool false) := HB6.out.cell 3
      have hf56 := hf5.call hf6
      have HIN6 := hide (HINr.out.fr0 hf56)
      have hz6 := hf56.size
      have hzr := hfr.size
      go_wp2_with fail
      refine (do28_any HIN6.out HMO.out (HSTr.out.sok (by omega) (by omega)) (by omega) (fun i => by have := HSTr.out.use i; omega) (clr c) now (by omega)).mono ?_
      rintro e w7 ⟨v, rfl, hin7, hown7, hf7⟩
      rw [← HRD.out] at hin7 hown7 ⊢
      clear e0 e1 e2 e3
      have HIN7 := hide hin7
      have hf67 : Fr [P.b, P.g] w6 w7 := hf7
      have HFA7 : Hid (FA w7 gu 3 iv out.length (useI s)) := hide ((HFAr.out.fr0 hf56).fr hf7 (by simp; omega))
      have hgcz := HB6.out.lt
      have HB7 := hide (HB6.out.fr hf7 (by simp; omega))
      have e0 : w7.cell? ⟨gc, 0, none⟩ = some (.int .i64 c.kind) := HB7.out.cell 0
      have hfr7 : Fr [P.b, P.g, gu] w4 w7 := ((hfr.call hf56).trans (hf7.mono (fun y _ hy => by simp at hy ⊢; rcases hy with rfl | rfl <;> simp)))
      obtain ⟨A7, c7, rfl, -, -, -⟩ := own_slice hown7
      clear hin7 hown7 hf7
      go_wp2_with fail
      refine (mod_any c.kind 4 w7 (by omega) (by omega)).mono ?_
      rintro e w8 ⟨rfl, rfl⟩
      have hq4 := umod_lt c.kind (show 0 < 4 by omega)
      have hcs := HCS.out
      rw [show (clr c).kind = c.kind from rfl] at hcs
      generalize umod (clr c).dev out.length = d at hd hcs ⊢
      generalize (clr c).wait % 15 = x at hlt15 hcs ⊢
      generalize umod c.kind 4 = q at hq4 hcs ⊢
      have cu := HFA7.out.cell hd
      have fu := HFA7.out.frozen d
      have hdi : (d : Int) < (out.length : Int) := by omega
      have hul := HSTr.out.use d
      have hcu : iv (useI s d) = .int .i64 (s.use d : Int) := rfl
      rw [hcu] at cu
      clear hcu HAT HCS e0
      rcases hcs with ⟨rfl, hu0, hRe⟩ | ⟨hnot, hok, -, hst7, huse⟩
      · rw [hRe]
        rw [hu0] at cu
        rw [hRe] at HIN7
        dsimp only at HIN7 ⊢
        have HU0 := hide hu0
        clear hRe hu0
        go_wp2
        go_roundg (l.length - (k + 1))
        case measure => rw [HM.out]; omega
        case rel => exact ⟨k + 1, s, now, by omega, by go_num, rfl, HIN7.out, ⟨HSTr.out.good, HSTr.out.sin, HSTr.out.clk, fun i => Nat.le_succ_of_le (HSTr.out.use i)⟩, by omega, HFA7.out, hfr7, rfl⟩
      · rw [hok]
        obtain ⟨s1, ops, er⟩ := R
        dsimp only at HIN7 hst7 huse hok ⊢
        have HST7 := hide hst7
        have HUSE := hide huse
        clear hok hst7 huse
        have hb2 : ((q : Int) == 2) = decide (q = 2) := by by_cases h : q = 2 <;> simp [h] <;> omega
        have hb0 : q = 2 → ((s.use d : Int) == 0) = false := fun h => by have := fun h' => hnot ⟨h, h'⟩; simp; omega
        have HNOT := hide hnot
        clear hnot
        rcases (show q = 2 ∨ q ≠ 2 by omega) with hq2 | hq2
        all_goals
          have HQ2 := hide hq2
          first
            | rw [decide_eq_true hq2] at hb2
            | rw [decide_eq_false hq2] at hb2
          try have hb0' := hb0 hq2
          clear hb0 hq2
          go_upto_block 2 with (fail)
          go_cut [] (fun wx => UcCut w7 gu out.length s1 wx)
          case first =>
            clear hb2
            try clear hb0'
            rcases (show q = 2 ∨ q = 3 ∨ q = 0 ∨ q = 1 by omega) with rfl | rfl | rfl | rfl
            · have hu0 : ¬ s.use d = 0 := fun h => HNOT.out ⟨rfl, h⟩
              obtain ⟨u, hu⟩ : ∃ u, u = s.use d - 1 := ⟨_, rfl⟩
              have hw : IntKind.i64.wrap ((s.use d : Int) - 1) = (u : Int) := by rw [IntWalk.i64_in _ (by omega)]; omega
              have hw' : ((s.use d : Int) - 1) = (u : Int) := by omega
              have HFA8 : Hid (FA (w7.setCell ⟨gu, d, none⟩ (iv (u : Int))) gu 3 iv out.length (useI s1)) := hide ((HFA7.out.set_ d (u : Int)).congr (fun i _ => by
                show _ = ((s1.use i : Nat) : Int)
                rw [HUSE.out, if_pos rfl]
                unfold setF useI
                split <;> simp [hu]))
              clear hu0 hu
              go_wp2
              go_meet
              exact ⟨HFA8.out, (Fr.refl _ _).set (.inl (by simp)) _⟩
            · have HFA8 : Hid (FA w7 gu 3 iv out.length (useI s1)) := hide (HFA7.out.congr (fun i _ => by
                show ((s.use i : Nat) : Int) = ((s1.use i : Nat) : Int)
                rw [HUSE.out, if_neg (by decide), if_pos rfl]))
              go_wp2
              go_meet
              exact ⟨HFA8.out, Fr.refl _ _⟩
            all_goals
              obtain ⟨u, hu⟩ : ∃ u, u = s.use d + 1 := ⟨_, rfl⟩
              have hw : IntKind.i64.wrap ((s.use d : Int) + 1) = (u : Int) := by rw [IntWalk.i64_in _ (by omega)]; omega
              have hw' : ((s.use d : Int) + 1) = (u : Int) := by omega
              have HFA8 : Hid (FA (w7.setCell ⟨gu, d, none⟩ (iv (u : Int))) gu 3 iv out.length (useI s1)) := hide ((HFA7.out.set_ d (u : Int)).congr (fun i _ => by
                show _ = ((s1.use i : Nat) : Int)
                rw [show s1.use = setF s.use d (s.use d + 1) by have e := HUSE.out; simpa using e]
                unfold setF useI
                split <;> simp [hu]))
              clear hu
              go_wp2
              go_meet
              exact ⟨HFA8.out, (Fr.refl _ _).set (.inl (by simp)) _⟩
          case rest =>
            obtain ⟨hfa8, hf8⟩ := hcut
            have HFA8 := hide hfa8
            have HIN8 := hide (HIN7.out.fr hf8 (fun i hi => by rw [List.mem_singleton.1 hi]; exact htop))
            have hfr8 : Fr [P.b, P.g, gu] w4 wc := hfr7.trans (hf8.mono (fun y _ hy => by simp at hy ⊢; exact .inr (.inr hy)))
            clear hfa8 hb2 cu fu HFA7 HIN7 HB7 hf67 hfr7
            try clear hb0'
            go_wp2
            go_loopg [17] out.length (fun m i wr => Uc2 wc out.length m i wr)
            case atStart => exact ⟨0, by omega, rfl, Fr.refl _ _, rfl⟩
            case round =>
              obtain ⟨j, hj, rfl, hf9, hmm⟩ := hrel
              have HM2 := hide hmm
              clear hmm
              by_cases hjl : j < out.length
              · have hji : (j : Int) < (out.length : Int) := by omega
                have hjk : (0 : Int) ≤ (j : Int) ∧ (j : Int) < ((newRM out).n : Int) := ⟨by omega, hji⟩
                have cj := (HFA8.out.fr0 hf9).cell hjl
                rw [show iv (useI s1 j) = .int .i64 (s1.use j : Int) from rfl] at cj
                have hus := usage28_any ((HIN8.out.fr0 hf9).fr0 ((Fr.refl [] wr).drew)) (j : Int)
                rw [if_pos hjk, Int.toNat_natCast] at hus
                have HUS := hide hus
                have hne : ((s1.use j : Int) != (s1.use j : Int)) = false := by simp
                clear hus hjk
                go_upto_region 32 with (fail)
                go_region_held3 (fun w' => w'.cell? ⟨gu, j, none⟩ = some (.int .i64 (s1.use j : Int))) (go_keep) (first | (go_at_call 26; refine HUS.out.mono ?_; rintro e w' ⟨rfl, rfl⟩))
                all_goals
                  go_wp2
                  go_roundg (out.length - (j + 1))
                  case measure => rw [HM2.out]; omega
                  case rel => exact ⟨j + 1, by omega, by go_num, hf9.drew, rfl⟩
              · have hji : ¬ (j : Int) < (out.length : Int) := by omega
                have HFA9 := hide (HFA8.out.fr0 hf9)
                have HIN9 := hide (HIN8.out.fr0 hf9)
                have hfr9 := hfr8.trans (hf9.mono (fun y _ hy => by cases hy))
                go_wp2
                go_roundg (l.length - (k + 1))
                case measure => rw [HM.out]; omega
                case rel => exact ⟨k + 1, s1, now + x, by omega, by go_num, rfl, HIN9.out, HST7.out, by omega, HFA9.out, hfr9, rfl⟩
    · have hex : (¬ (k : Int) < (l.length : Int)) ∨ ((k : Int) < (l.length : Int) ∧ ¬ (0 : Int) < (out.length : Int)) := by omega
      rcases hex with hex | ⟨hex, hex2⟩
      all_goals
        clear hlt
        go_wp2_with fail
        refine (awake28_any wr).mono ?_
        rintro e w7 ⟨rfl, hf7⟩
        go_wp2
        go_ret
        exact ⟨rfl, hfwr.call hf7⟩
end Go.Proofs.Ytbnfdpemfmeldaa
