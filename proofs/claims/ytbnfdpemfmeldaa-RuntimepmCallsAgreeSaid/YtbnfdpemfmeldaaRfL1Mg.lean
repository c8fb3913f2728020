/- The law RuntimepmCallsAgree, walked. -/
import Derived.Test.YtbnfdpemfmeldaaMgRuntimeCalls8
import Derived.Test.YtbnfdpemfmeldaaMgRuntimeCalls9
import Derived.Test.YtbnfdpemfmeldaaRfW6Mg
import Derived.Test.YtbnfdpemfmeldaaRfNMg
namespace Go.Proofs.Ytbnfdpemfmeldaa
open Go.RowKit

def CaRel (w4 : World) (P : ML) (PR : RL) (out : List ID) (l : List CL) (m : Nat) (i : Value) (wr : World) : Prop :=
  ∃ (k : Nat) (s : RS), k ≤ l.length ∧ i = .int .i64 (k : Int) ∧ MgIn wr P (newRM out) s ∧ RgIn wr PR out s ∧ SOk (newRM out) s ∧ (∀ i, s.use i ≤ k) ∧ Fr (P.b :: P.g :: PR.own) w4 wr ∧ m = l.length - k
def Ca2 (w8 : World) (n : Nat) (m : Nat) (i : Value) (wr : World) : Prop := ∃ j : Nat, j ≤ n + 2 ∧ i = .int .i64 ((j : Int) - 1) ∧ w8 = wr ∧ m = n + 2 - j
theorem Dev8.ctx {l : List ID} (h : Dev8 l) : RCtx (newRM l) l := ⟨rfl, h.basic, h.new.2.1, h.new.2.2.1⟩
set_option maxHeartbeats 8000000 in
set_option maxRecDepth 100000 in
theorem calls28_walk (A B : Option Addr) (cp cq : Nat) (raw : List ID) (l : List CL) (w : World) (hr : Row w A (idcs raw)) (hw : ∀ x ∈ raw, IdWf w x) (hm : raw.length ≤ maxLen) (hl : Row w B (clcs l)) (hlm : l.length ≤ maxLen) (hlw : ∀ c ∈ l, c.wait ≤ 18446744073709551615) :
    Calls Try.prog 8 #[.slice A raw.length cp, .slice B l.length cq] w fun e w' => e = .returned (.bool true) ∧ Fr [] w w' := by
  have HR : Hid (IdsAt w A raw) := hide ⟨hr, fun x hx => (hw x hx).at_⟩
  have HL := hide hl
  have HLW := hide hlw
  clear hr hw hl hlw
  go_enter Try.func8, Try.ntmps8
  go_wp2_with fail
  refine (large28_any A B cp cq l.length raw w HR.out hm hlm).mono ?_
  rintro e w1 ⟨big, rfl, hlg, rfl⟩
  cases big with
  | true =>
    go_wp2_with fail
    refine (awake28_any w).mono ?_
    rintro e w7 ⟨rfl, hf7⟩
    go_wp2
    go_ret
    exact ⟨rfl, hf7⟩
  | false =>
  obtain ⟨hr20, hl40, hs20⟩ := hlg rfl
  have HS20 := hide hs20
  clear hlg hs20 hm hlm
  go_wp2_with fail
  refine (some28_any A cp raw w HR.out hr20 HS20.out).mono ?_
  rintro e w2 ⟨v2, out, rfl, hown, hsup, hdev, hf2⟩
  obtain ⟨A5, c5, rfl, -, -, -⟩ := own_slice hown
  have HOUT := hide (ids_stay hown hsup)
  have HDEV := hide hdev
  have ho8 := hdev.len
  clear hown hsup hdev
  go_wp2_with fail
  refine (new28_ok A5 c5 out w2 (HOUT.out [] w2 (Fr.refl _ _) (by simp)) (by omega) (fun x hx => by obtain ⟨i, hi⟩ := List.getElem?_of_mem hx; have := HDEV.out.sl i x hi; omega) HDEV.out.new.1).mono ?_
  rintro e w3 ⟨P, rfl, hin, hb, hg, htop, hf3, -⟩
  have HMO := hide HDEV.out.new.2.1
  have HORD := hide HDEV.out.new.2.2.1
  have HIN := hide hin
  have HST := hide (St.zero (newRM out))
  have hlow := hin.low
  clear hin
  have HC := hide HDEV.out.ctx
  have hids3 : IdsAt w3 A5 out := HOUT.out [] w3 hf3 (by simp)
  have hA5 : 0 < out.length → ∀ ad, A5 = some ad → ad.block < w2.heap.size := fun h0 ad e => by
    obtain ⟨ob, oo, e2, h3⟩ := (HOUT.out [] w2 (Fr.refl _ _) (by simp)).1.lt (by rw [idcs_length]; omega)
    rw [e2] at e
    injection e with e
    rw [← e]
    exact h3
  have HA5 := hide hA5
  clear hA5
  go_wp2_with fail
  refine (rnew28_any A5 c5 out w3 hids3 (by omega) (fun x hx => by obtain ⟨i, hi⟩ := List.getElem?_of_mem hx; have := HDEV.out.sl i x hi; omega)).mono ?_
  rintro e w4 hcase
  obtain ⟨PR, rfl, hrin, hbot, htopr, hbb, had, hf4⟩ : ∃ PR : RL, e = .returned (.tuple #[.pointer (some ⟨PR.b, 0, none⟩), .int .i64 0]) ∧ RgIn w4 PR out zeroS ∧ PR.bot = w3.heap.size ∧ PR.top ≤ w4.heap.size ∧ PR.bot ≤ PR.top ∧ PR.Ad = A5 ∧ Fr [] w3 w4 := by
    rcases hcase with ⟨h1, -⟩ | ⟨-, h⟩
    · exact absurd HDEV.out.new.1 h1
    · exact h
  have HIN4 := hide (HIN.out.fr0 hf4)
  have HRI4 := hide hrin
  have hz0 := hf2.size
  have hz1 := hf3.size
  have hz2 := hf4.size
  have HLO : Hid (∀ i ∈ P.b :: P.g :: PR.own, w2.heap.size ≤ i) := hide (fun i hi => by
    simp only [List.mem_cons] at hi
    rcases hi with rfl | rfl | hi
    · exact hb
    · exact hg
    · have := (HRI4.out.low i hi).1
      omega)
  have HSO0 : Hid (SOk (newRM out) zeroS) := hide ⟨fun _ => Nat.zero_le _, fun _ => Nat.zero_le _, Nat.zero_le _⟩
  have hfw4 : Fr [] w w4 := hf2.call (hf3.call hf4)
  have hbn : P.b < PR.bot ∧ P.g < PR.bot := ⟨by omega, by omega⟩
  have HB := hide (And.intro hb hg)
  clear hcase hrin hids3 HIN hb hg
  go_wp2
  go_loopg [10] l.length (fun m i wr => CaRel w4 P PR out l m i wr)
  case atStart => exact ⟨0, zeroS, by omega, rfl, HIN4.out, HRI4.out, HSO0.out, fun _ => Nat.zero_le _, Fr.refl _ _, rfl⟩
  case round =>
    clear HIN4 HRI4 HSO0 HST
    obtain ⟨k, s, hk, rfl, hin, hrin, hso, hu, hfr, hmm⟩ := hrel
    have HM := hide hmm
    have HINr := hide hin
    have HRIr := hide hrin
    have HSOr := hide hso
    have HU := hide hu
    have hfw : Fr [] w wr := hfw4.step hfr (fun i hi => .inr (by have := HLO.out i hi; omega))
    clear hmm hin hrin hso hu
    by_cases hlt : k < l.length
    · obtain ⟨c, hc⟩ : ∃ c, l[k]? = some c := ⟨_, List.getElem?_eq_getElem hlt⟩
      obtain ⟨ob, oo, rfl, c0, c1, c2, c3⟩ := (HL.out.fr0 hfw).cl hc
      have hkl : (k : Int) < (l.length : Int) := by omega
      have k5 : wr.cell? ⟨PR.b, 5, none⟩ = some (uv s.clk) := HRIr.out.blk.cell 5
      have hclk := HSOr.out.clk
      have hzr := hfr.size
      have HLN := hide (doC_len HMO.out s c s.clk)
      have HN := hide (doC_ok HSOr.out HU.out (by omega) c s.clk)
      have HCC := hide hc
      clear hc
      go_wp2_with fail
      refine (do28_any HINr.out HMO.out HSOr.out (by omega) (fun i => by have := HU.out i; omega) c s.clk hclk).mono ?_
      rintro e w5 ⟨v, rfl, hin5, hown5, hf5⟩
      have hri5 : RgIn w5 PR out s := HRIr.out.frL hf5 (fun i hi => by simp at hi; rcases hi with rfl | rfl <;> omega) (fun h0 ad e hm => by
        rw [had] at e
        have h1 := HA5.out h0 ad e
        have h2 := HB.out
        simp at hm
        rcases hm with hm | hm <;> omega)
      have hf5' : Fr (P.b :: P.g :: PR.own) w4 w5 := hfr.trans (hf5.mono (fun i _ hi => by simp at hi; rcases hi with rfl | rfl <;> simp))
      have hfw5 : Fr [] w w5 := hfw4.step hf5' (fun i hi => .inr (by have := HLO.out i hi; omega))
      obtain ⟨o2, q2, e2, d0, d1, d2, d3⟩ := (HL.out.fr0 hfw5).cl HCC.out
      obtain ⟨rfl, rfl⟩ : ob = o2 ∧ oo = q2 := by injection e2 with e; injection e with e1 e2; exact ⟨e1, e2⟩
      have HIN5 := hide hin5
      have HOW5 := hide hown5
      have HRI5 := hide hri5
      have hz5 := hf5'.size
      have hz5r := hf5.size
      clear c0 c1 c2 c3 k5 e2 hin5 hown5 hri5 hf5
      go_wp2_with fail
      refine (want28_any HC.out HRI5.out HSOr.out hbb (by omega) (fun i => by have := HU.out i; omega) c s.clk hclk).mono ?_
      rintro e w6 ⟨v', rfl, hri6, hown6, hf6⟩
      have HR0 : Hid (∀ (ww : World), Fr PR.own w5 ww → MgIn ww P (newRM out) (doC (newRM out) s c s.clk).1) := hide (fun ww h => HIN5.out.fr h (fun i hi => by have := (HRI5.out.low i hi).1; omega))
      have HIN6 := hide (HR0.out w6 hf6)
      have HOW5' := hide (own_fr HOW5.out hf6 (fun y hy hm => by
        have h1 := (own_block HOW5.out hy).1
        have h2 := (HRI5.out.low y hm).2
        omega))
      have HOW6 := hide hown6
      have HRI6 := hide hri6
      have hf6' : Fr (P.b :: P.g :: PR.own) w4 w6 := hf5'.trans (hf6.mono (fun i _ hi => by simp [hi]))
      clear hri6 hown6 hf6 d0 d1 d2 d3 HR0 HIN5 HOW5 HRI5
      obtain ⟨R, hR⟩ : ∃ R, R = doC (newRM out) s c s.clk := ⟨_, rfl⟩
      rw [← hR] at HIN6 HOW5' HOW6 HRI6 HN HLN ⊢
      clear hR
      obtain ⟨s1, ops, er⟩ := R
      dsimp only at HIN6 HOW5' HOW6 HRI6 HN HLN ⊢
      obtain ⟨A7, c7, rfl, -, hrw7, -⟩ := own_slice HOW5'.out
      obtain ⟨A8, c8, rfl, -, hrw8, -⟩ := own_slice HOW6.out
      have HR7 := hide hrw7
      have HR8 := hide hrw8
      have hops : ops.length ≤ 4096 := HLN.out
      clear hrw7 hrw8
      go_wp2_with fail
      refine (next28_any HIN6.out HMO.out HN.out.1).mono ?_
      rintro e w7 ⟨rfl, hf7⟩
      have HRI7 := hide (HRI6.out.fr0 hf7)
      go_wp2_with fail
      refine (rnext28_any HRI7.out HC.out.hB HC.out.hM HN.out.1).mono ?_
      rintro e w8 ⟨rfl, hf8⟩
      have hf68 := hf7.call hf8
      have hf8' := hf6'.call hf68
      have HIN8 := hide (HIN6.out.fr0 hf68)
      have HRI8 := hide (HRI6.out.fr0 hf68)
      generalize nextC (newRM out) s1 = nx
      obtain ⟨nt, nb⟩ := nx
      have g1 : (er != er) = false := by simp
      go_wp2_with fail
      refine (equalPops_any A7 A8 c7 c8 ops ops w8 (HR7.out.fr0 hf68) (HR8.out.fr0 hf68) hops).mono ?_
      rintro e w9 ⟨rfl, hf9⟩
      have HIN9 := hide (HIN8.out.fr0 hf9)
      have HRI9 := hide (HRI8.out.fr0 hf9)
      have hf9' := hf8'.call hf9
      have g2 : (nt != nt) = false := by simp
      have g3 : ((nt : Int) != (nt : Int)) = false := by simp
      have g4 : (nb != nb) = false := by simp
      rw [decide_eq_true (rfl : ops = ops)]
      go_wp2
      go_loopg [20] (out.length + 2) (fun m i wr => Ca2 w9 out.length m i wr)
      case atStart => exact ⟨0, by omega, rfl, rfl, rfl⟩
      case round =>
        obtain ⟨j, hj, rfl, rfl, hmm⟩ := hrel
        have HM2 := hide hmm
        clear hmm
        by_cases hjl : j < out.length + 2
        · have hji : (j : Int) - 1 ≤ (out.length : Int) := by omega
          have ha := active28_any HIN9.out ((j : Int) - 1)
          have hb := ractive28_any HRI9.out ((j : Int) - 1)
          have hc := usage28_any HIN9.out ((j : Int) - 1)
          have hd := rusage28_any HRI9.out ((j : Int) - 1)
          rw [show (newRM out).n = out.length from rfl] at ha hc
          generalize (decide (0 ≤ (j : Int) - 1 ∧ (j : Int) - 1 < (out.length : Int)) && s1.act ((j : Int) - 1).toNat) = ab at ha hb
          generalize (if 0 ≤ (j : Int) - 1 ∧ (j : Int) - 1 < (out.length : Int) then (s1.use ((j : Int) - 1).toNat : Int) else 0) = ub at hc hd
          have Ha := hide ha
          have Hb := hide hb
          have Hc := hide hc
          have Hd := hide hd
          have q1 : (ab != ab) = false := by simp
          have q2 : (ub != ub) = false := by simp
          have hjw : (j : Int) - 1 + 1 = (j : Int) := by omega
          clear ha hb hc hd
          go_wp2_with fail
          refine Ha.out.mono ?_
          rintro e w10 ⟨rfl, rfl⟩
          go_wp2_with fail
          refine Hb.out.mono ?_
          rintro e w10 ⟨rfl, rfl⟩
          go_wp2_with fail
          refine Hc.out.mono ?_
          rintro e w10 ⟨rfl, rfl⟩
          go_wp2_with fail
          refine Hd.out.mono ?_
          rintro e w10 ⟨rfl, rfl⟩
          go_wp2
          go_roundg (out.length + 2 - (j + 1))
          case measure => rw [HM2.out]; omega
          case rel => exact ⟨j + 1, by omega, by rw [show ((j + 1 : Nat) : Int) - 1 = (j : Int) by omega], rfl, rfl⟩
        · have hji : ¬ (j : Int) - 1 ≤ (out.length : Int) := by omega
          go_wp2
          go_roundg (l.length - (k + 1))
          case measure => rw [HM.out]; omega
          case rel => exact ⟨k + 1, s1, by omega, by go_num, HIN9.out, HRI9.out, HN.out.1, HN.out.2, hf9', rfl⟩
    · have hkl : ¬ (k : Int) < (l.length : Int) := by omega
      go_wp2_with fail
      refine (awake28_any wr).mono ?_
      rintro e w7 ⟨rfl, hf7⟩
      go_wp2
      go_ret
      exact ⟨rfl, hfw.call hf7⟩
end Go.Proofs.Ytbnfdpemfmeldaa

