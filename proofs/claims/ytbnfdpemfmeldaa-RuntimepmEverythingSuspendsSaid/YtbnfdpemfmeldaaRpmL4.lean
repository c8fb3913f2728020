/- The law RuntimepmEverythingSuspends, walked. -/
import Derived.Test.YtbnfdpemfmeldaaRpmW9
import Derived.Test.YtbnfdpemfmeldaaAppG
namespace Go.Proofs.Ytbnfdpemfmeldaa
open Go.RowKit

def EsRel (w3 : World) (P : ML) (M : RM) (n now : Nat) (m : Nat) (i : Value) (wr : World) : Prop :=
  ∃ (k : Nat) (s : RS), k ≤ n ∧ i = .int .i64 (k : Int) ∧ MgIn wr P M s ∧ St M s now 40 ∧ (∀ j, j < k → s.use j = 0) ∧ Fr [P.b, P.g] w3 wr ∧ m = n - k
def Es2 (w3 : World) (P : ML) (M : RM) (k now : Nat) (m : Nat) (i : Value) (wr : World) : Prop :=
  ∃ (u : Nat) (s : RS), i = .int .i64 (u : Int) ∧ s.use k = u ∧ MgIn wr P M s ∧ St M s now 40 ∧ (∀ j, j < k → s.use j = 0) ∧ Fr [P.b, P.g] w3 wr ∧ m = u
def Es3 (w6 : World) (n : Nat) (m : Nat) (i : Value) (wr : World) : Prop := ∃ j : Nat, j ≤ n ∧ i = .int .i64 (j : Int) ∧ w6 = wr ∧ m = n - j
theorem St.mono {M : RM} {s : RS} {now k k' : Nat} (h : St M s now k) (hk : k ≤ k') : St M s now k' := ⟨h.good, h.sin, h.clk, fun i => Nat.le_trans (h.use i) hk⟩
/-- One use less. -/
theorem put_one {M : RM} {s : RS} {now k : Nat} (h : St M s now 40) (hu : 0 < s.use k) (hall : ∀ j, j < k → s.use j = 0) (hk : k < M.n) (hn : now ≤ 600) :
    putC M s (k : Int) now = ((putM M s k now).1, (putM M s k now).2, 0) ∧ St M (putM M s k now).1 now 40 ∧ (putM M s k now).1.use k = s.use k - 1 ∧ ∀ j, j < k → (putM M s k now).1.use j = 0 := by
  have hc := h.clk
  have h1 := put_did h.good (last := 0) (t := now) (Nat.zero_le _) (by omega) hu
  have h2 := (putM_use M s k now).1
  refine ⟨?_, h1.st (put_sin k h.sin (by omega)) (fun i => ?_), ?_, fun j hj => ?_⟩
  · unfold putC
    rw [if_pos ⟨⟨by omega, by omega⟩, by omega, by omega⟩, Int.toNat_natCast, if_neg (by omega)]
  · rw [h2]
    exact setF_le h.use (by have := h.use k; omega) i
  · rw [h2]
    exact setF_self _ _ _
  · rw [h2, setF_ne _ _ (by omega)]
    exact hall j hj
set_option maxHeartbeats 8000000 in
set_option maxRecDepth 100000 in
theorem suspends_walk (A B : Option Addr) (cp cq : Nat) (raw : List ID) (l : List CL) (w : World) (hr : Row w A (idcs raw)) (hw : ∀ x ∈ raw, IdWf w x) (hm : raw.length ≤ maxLen) (hl : Row w B (clcs l)) (hlm : l.length ≤ maxLen) (hlw : ∀ c ∈ l, c.wait ≤ 18446744073709551615) :
    Calls Try.prog 10 #[.slice A raw.length cp, .slice B l.length cq] w fun e w' => e = .returned (.bool true) ∧ Fr [] w w' := by
  have HR : Hid (IdsAt w A raw) := hide ⟨hr, fun x hx => (hw x hx).at_⟩
  have HL := hide hl
  have HLW := hide hlw
  clear hr hw hl hlw
  go_enter Try.func10, Try.ntmps10
  go_wp2_with fail
  refine (large28_any A B cp cq l.length raw w HR.out hm hlm).mono ?_
  rintro e w1 ⟨big, rfl, hlg, rfl⟩
  cases big with
  | true =>
    go_wp2_with fail
    refine (awake28_any w).mono ?_
    rintro e w7 ⟨rfl, hf7⟩
    go_wp2
    go_ret
    exact ⟨rfl, hf7⟩
  | false =>
  obtain ⟨hr20, hl40, hs20⟩ := hlg rfl
  have HS20 := hide hs20
  clear hlg hs20 hm hlm
  go_wp2_with fail
  refine (some28_any A cp raw w HR.out hr20 HS20.out).mono ?_
  rintro e w2 ⟨v2, out, rfl, hown, hsup, hdev, hf2⟩
  obtain ⟨A5, c5, rfl, -, -, -⟩ := own_slice hown
  have HOUT := hide (ids_stay hown hsup)
  have HDEV := hide hdev
  have ho8 := hdev.len
  clear hown hsup hdev
  go_wp2_with fail
  refine (play28_any A5 B c5 cq out l w2 (HOUT.out [] w2 (Fr.refl _ _) (by simp)) HDEV.out (HL.out.fr0 hf2) hl40).mono ?_
  rintro e w3 ⟨P, rfl, hmg, hst, hnow, hb, hg, htop, hbot, hf3⟩
  have HMO := hide HDEV.out.new.2.1
  have HORD := hide HDEV.out.new.2.2.1
  have hfw3 := hf2.call hf3
  generalize (plM (newRM out) l).2 = now at hst hnow ⊢
  generalize (plM (newRM out) l).1 = s at hmg hst
  have hnow6 : now ≤ 600 := by omega
  have hnowi : (now : Int) ≤ 600 := by omega
  have hst40 := St.mono hst hl40
  have HIN := hide hmg
  have HST := hide hst40
  have hlow := hmg.low
  clear hmg hst hst40
  go_wp2
  go_loopg [9] out.length (fun m i wr => EsRel w3 P (newRM out) out.length now m i wr)
  case atStart => exact ⟨0, s, by omega, rfl, HIN.out, HST.out, fun j hj => by omega, Fr.refl _ _, rfl⟩
  case round =>
    obtain ⟨k, s1, hk, rfl, hin, hst, hall, hfr, hmm⟩ := hrel
    have HM := hide hmm
    have HINr := hide hin
    have HSTr := hide hst
    have HALL := hide hall
    have hf2r : Fr [] w2 wr := Fr.two hf3 hfr hb hg
    clear hmm hin hst hall
    by_cases hlt : k < out.length
    · have hkl : (k : Int) < (out.length : Int) := by omega
      have hjk : (0 : Int) ≤ (k : Int) ∧ (k : Int) < ((newRM out).n : Int) := ⟨by omega, hkl⟩
      have hus := usage28_any HINr.out (k : Int)
      rw [if_pos hjk, Int.toNat_natCast] at hus
      have HUS := hide hus
      clear hus hjk
      go_wp2_with fail
      refine HUS.out.mono ?_
      rintro e w4 ⟨rfl, rfl⟩
      have hub := HSTr.out.use k
      go_wp2
      go_loopg [10] (s1.use k) (fun m i wr => Es2 w3 P (newRM out) k now m i wr)
      case atStart => exact ⟨_, s1, rfl, rfl, HINr.out, HSTr.out, HALL.out, hfr, rfl⟩
      case round =>
        obtain ⟨u, s2, rfl, hu, hin, hst, hall, hfr2, hmm⟩ := hrel
        have HM2 := hide hmm
        have HU := hide hu
        have HIN2 := hide hin
        have HST2 := hide hst
        have HALL2 := hide hall
        have hub2 := hst.use k
        rw [hu] at hub2
        clear hmm hu hin hst hall
        by_cases hu0 : 0 < u
        · obtain ⟨u1, hu1⟩ : ∃ u1, u1 = u - 1 := ⟨_, rfl⟩
          have hui : (0 : Int) < (u : Int) := by omega
          have hsub : ((u : Int) - 1) = (u1 : Int) := by omega
          have hput := put_one HST2.out (by rw [HU.out]; exact hu0) HALL2.out hlt hnow6
          have HPUT := hide hput
          have hz2 := hfr2.size
          have HU1 := hide hu1
          clear hput hu1
          go_wp2_with fail
          refine (put28_any HIN2.out HMO.out (HST2.out.sok (by omega) (by omega)) (by omega) (k : Int) now).mono ?_
          rintro e w5 ⟨v, rfl, hin5, hown5, hf5⟩
          rw [HPUT.out.1] at hin5 hown5 ⊢
          dsimp only at hin5 hown5 ⊢
          obtain ⟨A7, c7, rfl, -, -, -⟩ := own_slice hown5
          have HIN5 := hide hin5
          clear hin5 hown5
          go_wp2
          go_roundg u1
          case measure => rw [HM2.out, HU1.out]; omega
          case rel => exact ⟨u1, _, rfl, by rw [HPUT.out.2.2.1, HU.out, HU1.out], HIN5.out, HPUT.out.2.1, HPUT.out.2.2.2, hfr2.trans hf5, rfl⟩
        · obtain rfl : u = 0 := by omega
          go_wp2
          go_roundg (out.length - (k + 1))
          case measure => rw [HM.out]; omega
          case rel => exact ⟨k + 1, s2, by omega, by go_num, HIN2.out, HST2.out, fun j hj => by
            by_cases e : j = k
            · subst e; exact HU.out
            · exact HALL2.out j (by omega), hfr2, rfl⟩
    · have hkl : ¬ (k : Int) < (out.length : Int) := by omega
      have hz := hfr.size
      have hs0 : ∀ i, s1.use i = 0 := fun i => by
        by_cases hi : i < k
        · exact HALL.out i hi
        · cases hx : s1.use i with
          | zero => rfl
          | succ q =>
            exfalso
            have h1 := HSTr.out.good.up.dom i (HSTr.out.good.up.use i (by omega))
            have h1 : i < out.length := h1
            omega
      have hlaw := suspends_law HORD.out (show (newRM out).n ≤ 8 from ho8) HDEV.out.dl11 HSTr.out.good hs0 HSTr.out.sin
      rw [HSTr.out.clk] at hlaw
      obtain ⟨T, hT⟩ : ∃ T, T = now + 200 := ⟨_, rfl⟩
      rw [← hT] at hlaw
      have hsum : ((now : Int) + 200) = (T : Int) := by omega
      have hws : IntKind.u64.wrap ((now : Int) + 200) = (T : Int) := by rw [IntKind.wrap_u64]; omega
      have hclk := HSTr.out.clk
      have hTb : T ≤ 800 := by omega
      have HA : Hid (advC (newRM out) s1 T = ((advM (newRM out) s1 T).1, (advM (newRM out) s1 T).2, 0)) := hide (by unfold advC; rw [if_pos ⟨by omega, by omega⟩])
      have hu1 := (advM_use (newRM out) s1 T).1
      have HST2 := hide ((adv_did HSTr.out.good (last := 0) (Nat.zero_le _)).st (t := T) (adv_sin HSTr.out.sin (by omega)) (fun i => by rw [hu1]; exact HSTr.out.use i))
      have hU2 : ∀ i, (advM (newRM out) s1 T).1.use i = 0 := fun i => by rw [hu1]; exact hs0 i
      have HU2 := hide hU2
      have HLAW := hide hlaw
      clear hs0 hlaw hu1 hU2 hT hclk
      generalize (advM (newRM out) s1 T).1 = s2 at HA HST2 HU2 HLAW
      generalize (advM (newRM out) s1 T).2 = o2 at HA
      rw [show uv now = Value.int .u64 (now : Int) from rfl]
      go_wp2_with fail
      refine (advance28_any HINr.out HMO.out (HSTr.out.sok (by omega) (by omega)) (by omega) T).mono ?_
      rintro e w5 ⟨v, rfl, hin5, hown5, hf5⟩
      rw [HA.out] at hin5 hown5 ⊢
      dsimp only at hin5 hown5 ⊢
      obtain ⟨A7, c7, rfl, -, -, -⟩ := own_slice hown5
      have HIN5 := hide hin5
      have hfw5 : Fr [] w w5 := hf2.call (Fr.two hf2r hf5 hb hg)
      clear hin5 hown5 hsum hws
      go_wp2
      go_loopg [15] out.length (fun m i wr => Es3 w5 out.length m i wr)
      case atStart => exact ⟨0, by omega, rfl, rfl, rfl⟩
      case round =>
        obtain ⟨j, hj, rfl, rfl, hmm⟩ := hrel
        have HM3 := hide hmm
        clear hmm
        by_cases hjl : j < out.length
        · have hjl2 : (j : Int) < (out.length : Int) := by omega
          have hjk : (0 : Int) ≤ (j : Int) ∧ (j : Int) < ((newRM out).n : Int) := ⟨by omega, hjl2⟩
          have hus := usage28_any HIN5.out (j : Int)
          rw [if_pos hjk, Int.toNat_natCast, HU2.out j] at hus
          have hac := active28_any HIN5.out (j : Int)
          rw [decide_eq_true hjk, Int.toNat_natCast, HLAW.out.1 j] at hac
          have HUS := hide hus
          have HAC := hide hac
          clear hus hac hjk
          go_wp2_with fail
          refine HAC.out.mono ?_
          rintro e w6 ⟨rfl, rfl⟩
          go_wp2_with fail
          refine HUS.out.mono ?_
          rintro e w6 ⟨rfl, rfl⟩
          go_wp2
          go_roundg (out.length - (j + 1))
          case measure => rw [HM3.out]; omega
          case rel => exact ⟨j + 1, by omega, by go_num, rfl, rfl⟩
        · have hjl2 : ¬ (j : Int) < (out.length : Int) := by omega
          have HNX : Hid (nextC (newRM out) s2 = (0, false)) := hide (by unfold nextC; rw [HLAW.out.2])
          go_wp2_with fail
          refine (next28_any HIN5.out HMO.out (HST2.out.sok (by omega) (by omega))).mono ?_
          rintro e w6 ⟨rfl, hf6⟩
          rw [HNX.out]
          dsimp only
          go_wp2_with fail
          refine (awake28_any _).mono ?_
          rintro e w7 ⟨rfl, hf7⟩
          go_wp2
          go_ret
          exact ⟨rfl, (hfw5.call hf6).call hf7⟩
end Go.Proofs.Ytbnfdpemfmeldaa
