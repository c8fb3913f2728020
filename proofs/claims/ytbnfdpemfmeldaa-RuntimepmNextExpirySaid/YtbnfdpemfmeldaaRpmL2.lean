/- The law RuntimepmNextExpiry, walked. -/
import Derived.Test.YtbnfdpemfmeldaaRpmW9
import Derived.Test.YtbnfdpemfmeldaaAppG
namespace Go.Proofs.Ytbnfdpemfmeldaa
open Go.RowKit

def NxRel (w8 : World) (ops : List POp) (m : Nat) (i : Value) (wr : World) : Prop := ∃ j : Nat, j ≤ ops.length ∧ i = .int .i64 (j : Int) ∧ w8 = wr ∧ m = ops.length - j
set_option maxHeartbeats 8000000 in
set_option maxRecDepth 100000 in
theorem next_walk (A B : Option Addr) (cp cq : Nat) (raw : List ID) (l : List CL) (later : Nat) (w : World) (hr : Row w A (idcs raw)) (hw : ∀ x ∈ raw, IdWf w x) (hm : raw.length ≤ maxLen) (hl : Row w B (clcs l)) (hlm : l.length ≤ maxLen) (hlw : ∀ c ∈ l, c.wait ≤ 18446744073709551615) :
    Calls Try.prog 5 #[.slice A raw.length cp, .slice B l.length cq, uv later] w fun e w' => e = .returned (.bool true) ∧ Fr [] w w' := by
  have HR : Hid (IdsAt w A raw) := hide ⟨hr, fun x hx => (hw x hx).at_⟩
  have HL := hide hl
  have HLW := hide hlw
  clear hr hw hl hlw
  go_enter Try.func5, Try.ntmps5
  go_wp2_with fail
  refine (large28_any A B cp cq l.length raw w HR.out hm hlm).mono ?_
  rintro e w1 ⟨big, rfl, hlg, rfl⟩
  cases big with
  | true =>
    go_wp2_with fail
    refine (awake28_any w).mono ?_
    rintro e w7 ⟨rfl, hf7⟩
    go_wp2
    go_ret
    exact ⟨rfl, hf7⟩
  | false =>
  obtain ⟨hr20, hl40, hs20⟩ := hlg rfl
  have HS20 := hide hs20
  clear hlg hs20 hm hlm
  go_wp2_with fail
  refine (some28_any A cp raw w HR.out hr20 HS20.out).mono ?_
  rintro e w2 ⟨v2, out, rfl, hown, hsup, hdev, hf2⟩
  obtain ⟨A5, c5, rfl, -, -, -⟩ := own_slice hown
  have HOUT := hide (ids_stay hown hsup)
  have HDEV := hide hdev
  have ho8 := hdev.len
  clear hown hsup hdev
  go_wp2_with fail
  refine (play28_any A5 B c5 cq out l w2 (HOUT.out [] w2 (Fr.refl _ _) (by simp)) HDEV.out (HL.out.fr0 hf2) hl40).mono ?_
  rintro e w3 ⟨P, rfl, hmg, hst, hnow, hb, hg, htop, hbot, hf3⟩
  have HMO := hide HDEV.out.new.2.1
  have HORD := hide HDEV.out.new.2.2.1
  have hfw3 := hf2.call hf3
  generalize (plM (newRM out) l).2 = now at hst hnow ⊢
  generalize (plM (newRM out) l).1 = s at hmg hst
  rw [show uv now = Value.int .u64 (now : Int) from rfl]
  have hnow6 : now ≤ 600 := by omega
  have hnowi : (now : Int) ≤ 600 := by omega
  have HIN := hide hmg
  have HST := hide hst
  have hsok := hst.sok (by omega) (by omega)
  have HSO := hide hsok
  clear hmg hst hsok
  go_wp2_with fail
  refine (next28_any HIN.out HMO.out HSO.out).mono ?_
  rintro e w4 ⟨rfl, hf4⟩
  have hz4 := hf4.size
  have HIN4 := hide (HIN.out.fr0 hf4)
  have hfw4 := hfw3.call hf4
  cases hfs : fstM (newRM out) s with
  | none =>
    have HN : Hid (nextC (newRM out) s = (0, false)) := hide (by unfold nextC; rw [hfs])
    rw [HN.out]
    dsimp only
    have hx : later % 1000000 < 1000000 := Nat.mod_lt _ (by omega)
    have hr1 : ((later : Int) % 1000000) = ((later % 1000000 : Nat) : Int) := rfl
    have hr2 : ((later : Int).tmod 1000000) = ((later % 1000000 : Nat) : Int) := rfl
    generalize later % 1000000 = x at hx hr1 hr2
    obtain ⟨T, hT⟩ : ∃ T, T = now + x := ⟨_, rfl⟩
    have hadv : Hid (advC (newRM out) s T = ({ s with clk := T }, [], 0)) := hide (by
      unfold advC
      rw [if_pos ⟨by have := HST.out.clk; omega, by omega⟩, next_none hfs])
    have hsum : ((now : Int) + (x : Int)) = (T : Int) := by omega
    have hwsum : IntKind.u64.wrap ((now : Int) + (x : Int)) = (T : Int) := by rw [IntKind.wrap_u64]; omega
    clear hT
    have HFS := hide hfs
    clear hfs
    go_wp2_with fail
    refine (advance28_any HIN4.out HMO.out HSO.out (by omega) T).mono ?_
    rintro e w5 ⟨v, rfl, hin5, hown5, hf5⟩
    rw [hadv.out] at hown5 ⊢
    dsimp only at hown5 ⊢
    obtain ⟨A7, c7, rfl, -, -, -⟩ := own_slice hown5
    have hfw5 : Fr [] w w5 := hf2.call (Fr.two (hf3.call hf4) hf5 hb hg)
    clear hin5 hown5 hr1 hr2 hsum hwsum
    go_wp2_with fail
    refine (awake28_any _).mono ?_
    rintro e w6 ⟨rfl, hf6⟩
    go_wp2
    go_ret
    exact ⟨rfl, hfw5.call hf6⟩
  | some d =>
    have HN : Hid (nextC (newRM out) s = (exy (newRM out) s d, true)) := hide (by unfold nextC; rw [hfs])
    have hlaw := next_law HST.out.good hfs
    have hbd : exy (newRM out) s d ≤ now + 11 := by
      have h1 := HST.out.sin d
      have h2 := HST.out.clk
      have h3 := HDEV.out.dl11 d
      unfold exy
      omega
    rw [HN.out]
    dsimp only
    rw [HST.out.clk] at hlaw
    obtain ⟨t1, ht1⟩ : ∃ t1, t1 = exy (newRM out) s d - 1 := ⟨_, rfl⟩
    rw [← ht1] at hlaw
    generalize exy (newRM out) s d = T at hlaw hbd ht1 ⊢
    obtain ⟨hlt, had1, hne, hall⟩ := hlaw
    have HA1 : Hid (advC (newRM out) s t1 = ({ s with clk := t1 }, [], 0)) := hide (by
      unfold advC
      rw [if_pos ⟨by have := HST.out.clk; omega, by omega⟩, had1])
    obtain ⟨s2, ops, hR⟩ : ∃ s2 ops, advM (newRM out) { s with clk := t1 } T = (s2, ops) := ⟨_, _, rfl⟩
    rw [hR] at hne hall
    dsimp only at hne hall
    have HA2 : Hid (advC (newRM out) { s with clk := t1 } T = (s2, ops, 0)) := hide (by
      unfold advC
      rw [if_pos ⟨by show t1 ≤ T; omega, by omega⟩, hR])
    have hops0 : 0 < ops.length := List.length_pos_iff.2 hne
    have HALL := hide hall
    have hopl : ops.length ≤ 64 := by
      have h1 := expK_len (M := newRM out) T ((newRM out).n + 1) { s with clk := T } []
      have h2 := nAct_le (newRM out) { s with clk := T }
      have h3 := HMO.out.n
      have h4 : (expK (newRM out) T ((newRM out).n + 1) { s with clk := T } []) = (s2, ops) := hR
      rw [h4] at h1
      simp at h1
      omega
    have hle : ¬ (T : Int) ≤ (now : Int) := by omega
    have hsub : ((T : Int) - 1) = (t1 : Int) := by omega
    have hwsub : IntKind.u64.wrap ((T : Int) - 1) = (t1 : Int) := by rw [IntKind.wrap_u64]; omega
    have hTi : 1 ≤ (T : Int) ∧ (T : Int) ≤ 611 := ⟨by omega, by omega⟩
    have hT1 := hTi.1
    have hT2 := hTi.2
    rw [show uv T = Value.int .u64 (T : Int) from rfl]
    clear hfs ht1 had1 hR hall hne hlt hTi
    go_wp2_with fail
    refine (advance28_any HIN4.out HMO.out HSO.out (by omega) t1).mono ?_
    rintro e w5 ⟨v, rfl, hin5, hown5, hf5⟩
    rw [HA1.out] at hin5 hown5 ⊢
    dsimp only at hin5 hown5 ⊢
    obtain ⟨A7, c7, rfl, -, -, -⟩ := own_slice hown5
    have HIN5 := hide hin5
    have hf25 : Fr [] w2 w5 := Fr.two (hf3.call hf4) hf5 hb hg
    have hz5 := hf5.size
    have HSO5 := hide (HSO.out.tick (t := t1) (by omega))
    clear hin5 hown5 hsub hwsub
    go_wp2_with fail
    refine (advance28_any HIN5.out HMO.out HSO5.out (by omega) T).mono ?_
    rintro e w6 ⟨v, rfl, hin6, hown6, hf6⟩
    rw [HA2.out] at hown6 ⊢
    dsimp only at hown6 ⊢
    obtain ⟨A8, c8, rfl, -, hr8, -⟩ := own_slice hown6
    have HR8 := hide hr8
    have hfw6 : Fr [] w w6 := hf2.call (Fr.two hf25 hf6 hb hg)
    have hl0 : ((ops.length : Int) == 0) = false := beq_eq_false_iff_ne.2 (by omega)
    have hl1 : decide ((0 : Int) < (ops.length : Int)) = true := by simp; omega
    clear hin6 hown6 hr8
    go_wp2
    go_loopg [19] ops.length (fun m i wr => NxRel w6 ops m i wr)
    case atStart => exact ⟨0, by omega, rfl, rfl, rfl⟩
    case round =>
      obtain ⟨j, hj, rfl, rfl, hmm⟩ := hrel
      have HM := hide hmm
      clear hmm
      by_cases hjl : j < ops.length
      · obtain ⟨o, ho⟩ : ∃ o, ops[j]? = some o := ⟨_, List.getElem?_eq_getElem hjl⟩
        obtain ⟨ob, oo, rfl, c0, c1, c2⟩ := HR8.out.pop ho
        obtain ⟨ho1, ho2⟩ := HALL.out o (List.mem_of_getElem? ho)
        rw [ho1] at c1
        rw [ho2] at c2
        have hji : (j : Int) < (ops.length : Int) := by omega
        have hne : ((T : Int) != (T : Int)) = false := by simp
        clear ho ho1 ho2 c0
        go_wp2
        go_roundg (ops.length - (j + 1))
        case measure => rw [HM.out]; omega
        case rel => exact ⟨j + 1, by omega, by go_num, rfl, rfl⟩
      · have hji : ¬ (j : Int) < (ops.length : Int) := by omega
        go_wp2_with fail
        refine (awake28_any _).mono ?_
        rintro e w7 ⟨rfl, hf7⟩
        go_wp2
        go_ret
        exact ⟨rfl, hfw6.call hf7⟩
end Go.Proofs.Ytbnfdpemfmeldaa
