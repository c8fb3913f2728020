/- Walks over the reference of chapter 28: bad, idle, first. -/
import Derived.Test.YtbnfdpemfmeldaaMgRuntimeCalls9
import Derived.Test.YtbnfdpemfmeldaaRpmW1Mg
namespace Go.Proofs.Ytbnfdpemfmeldaa
open Go.RowKit

section
variable {w : World} {P : RL} {l : List ID} {s : RS}
/-- The links of devices that New accepts. -/
theorem link_nat {n : Nat} {L : List (Int × Int)} (h : basicM (n : Int) L = 0) {k : Nat} {p : Int × Int} (hp : L[k]? = some p) : ∃ a b : Nat, p = ((a : Int), (b : Int)) ∧ a < n ∧ b < n ∧ (toNs L)[k]? = some (a, b) := by
  obtain ⟨hok, -⟩ := basicM_zero h
  have h1 := hok.2.2.2 p (List.mem_of_getElem? hp)
  obtain ⟨x, y⟩ := p
  obtain ⟨a, rfl⟩ := Int.eq_ofNat_of_zero_le h1.1
  obtain ⟨b, rfl⟩ := Int.eq_ofNat_of_zero_le h1.2.2.1
  refine ⟨a, b, rfl, by have := h1.2.1; simp at this; omega, by have := h1.2.2.2; simp at this; omega, ?_⟩
  unfold toNs
  rw [List.getElem?_map, hp]
  rfl
set_option maxHeartbeats 1000000 in
theorem bad28_any (h : RgIn w P l s) (t : Nat) : Calls Try.prog 52 #[.pointer (some ⟨P.b, 0, none⟩), uv t] w fun e w' => e = .returned (.bool (!decide (s.clk ≤ t ∧ t ≤ 1152921504606846976))) ∧ w = w' := by
  have c0 : w.cell? ⟨P.b, 5, none⟩ = some (.int .u64 (s.clk : Int)) := h.blk.cell 5
  clear h
  obtain ⟨B, hB⟩ : ∃ B, B = !decide (s.clk ≤ t ∧ t ≤ 1152921504606846976) := ⟨_, rfl⟩
  rw [← hB]
  have HB := hide hB
  clear hB
  by_cases h0 : t < s.clk
  · have HD : Hid ((!decide (s.clk ≤ t ∧ t ≤ 1152921504606846976)) = true) := hide (by simp; omega)
    have h0' : (t : Int) < (s.clk : Int) := by omega
    go_enter Try.func52, Try.ntmps52
    go_wp2
    go_ret
    exact ⟨ret_bool (by rw [HB.out, HD.out]), rfl⟩
  · have h0' : ¬ (t : Int) < (s.clk : Int) := by omega
    by_cases h1 : 1152921504606846976 < t
    · have HD : Hid ((!decide (s.clk ≤ t ∧ t ≤ 1152921504606846976)) = true) := hide (by simp; omega)
      have h1' : (1152921504606846976 : Int) < (t : Int) := by omega
      go_enter Try.func52, Try.ntmps52
      go_wp2
      go_ret
      exact ⟨ret_bool (by rw [HB.out, HD.out]), rfl⟩
    · have HD : Hid ((!decide (s.clk ≤ t ∧ t ≤ 1152921504606846976)) = false) := hide (by simp; omega)
      have h1' : ¬ (1152921504606846976 : Int) < (t : Int) := by omega
      go_enter Try.func52, Try.ntmps52
      go_wp2
      go_ret
      exact ⟨ret_bool (by rw [HB.out, HD.out]), rfl⟩
def RiRel (w : World) (L : List (Int × Int)) (s : RS) (i : Nat) (m : Nat) (k : Value) (wr : World) : Prop := ∃ j : Nat, j ≤ L.length ∧ k = .int .i64 (j : Int) ∧ (∀ p ∈ (toNs L).take j, p.2 = i → s.act p.1 = false) ∧ (∃ q, wr = w.drewN q) ∧ m = L.length - j
theorem idl_parts {M : RM} {s : RS} {i : Nat} : idl M s i = (s.act i && (s.use i == 0 && (conL M.L i).all fun c => !s.act c)) := rfl
set_option maxHeartbeats 4000000 in
theorem ridle28_any (h : RgIn w P l s) (hB : basicM (l.length : Int) (idLinks 0 l) = 0) {i : Nat} (hi : i < l.length) : Calls Try.prog 54 #[.pointer (some ⟨P.b, 0, none⟩), .int .i64 (i : Int)] w fun e w' => e = .returned (.bool (idl (newRM l) s i)) ∧ ∃ q, w' = w.drewN q := by
  have c1 : w.cell? ⟨P.b, 1, none⟩ = some (.slice P.Al (idLinks 0 l).length P.cl) := h.blk.cell 1
  have c2 : w.cell? ⟨P.b, 2, none⟩ = some (.slice (some ⟨P.ga, 0, none⟩) l.length l.length) := h.blk.cell 2
  have c3 : w.cell? ⟨P.b, 3, none⟩ = some (.slice (some ⟨P.gu, 0, none⟩) l.length l.length) := h.blk.cell 3
  have d0 : w.cell? ⟨P.ga, i, none⟩ = some (.bool (s.act i)) := h.on.cell hi
  have d1 : w.cell? ⟨P.gu, i, none⟩ = some (.int .i64 (s.use i : Int)) := h.us.cell hi
  have hii : (i : Int) < (l.length : Int) := by omega
  have hl1 : (idLinks 0 l).length ≤ 1024 := (basicM_zero hB).1.2.2.1
  have HI : Hid (idl (newRM l) s i = (s.act i && (s.use i == 0 && (conL (toNs (idLinks 0 l)) i).all fun c => !s.act c))) := hide rfl
  have HH := hide h
  have HLN := hide (fun (k : Nat) (p : Int × Int) (hp : (idLinks 0 l)[k]? = some p) => link_nat hB hp)
  have HLK := hide (fun (k : Nat) (p : Int × Int) (hp : (idLinks 0 l)[k]? = some p) => h.link hp)
  have hTL : (toNs (idLinks 0 l)).length = (idLinks 0 l).length := by simp [toNs]
  have HTL := hide hTL
  clear h hB hTL
  cases ha : s.act i with
  | false =>
    rw [ha] at HI d0
    go_enter Try.func54, Try.ntmps54
    go_wp2
    go_ret
    exact ⟨ret_bool (by rw [HI.out]; rfl), 0, rfl⟩
  | true =>
    rw [ha, Bool.true_and] at HI
    rw [ha] at d0
    by_cases hu : s.use i = 0
    · have hu' : ¬ (0 : Int) < (s.use i : Int) := by omega
      have hu2 : (s.use i == 0) = true := by simp [hu]
      rw [hu2, Bool.true_and] at HI
      clear hu hu2
      go_enter Try.func54, Try.ntmps54
      go_wp2
      clear d0 d1 c1 c2 c3
      go_loopg [5] (idLinks 0 l).length (fun m k wr => RiRel w (idLinks 0 l) s i m k wr)
      case atStart => exact ⟨0, by omega, rfl, by simp, ⟨0, rfl⟩, rfl⟩
      case round =>
        obtain ⟨j, hj, rfl, hall, ⟨q, hq⟩, hmm⟩ := hrel
        have hfr : Fr [] w wr := by rw [hq]; exact (Fr.refl _ _).drewN _
        have HQ := hide hq
        clear hq
        have HM := hide hmm
        have HALL := hide hall
        have c1 : wr.cell? ⟨P.b, 1, none⟩ = some (.slice P.Al (idLinks 0 l).length P.cl) := (HH.out.fr0 hfr).blk.cell 1
        clear hmm hall
        by_cases hlt : j < (idLinks 0 l).length
        · obtain ⟨p, hp⟩ : ∃ p, (idLinks 0 l)[j]? = some p := ⟨_, List.getElem?_eq_getElem hlt⟩
          obtain ⟨a, b, rfl, han, hbn, hpn⟩ := HLN.out j p hp
          obtain ⟨ob, oo, eA, q0, q1⟩ := (HH.out.fr0 hfr).link hp
          rw [eA] at c1
          have c2 : wr.cell? ⟨P.b, 2, none⟩ = some (.slice (some ⟨P.ga, 0, none⟩) l.length l.length) := (HH.out.fr0 hfr).blk.cell 2
          have d0 : wr.cell? ⟨P.ga, a, none⟩ = some (.bool (s.act a)) := (HH.out.fr0 hfr).on.cell han
          have hai : (a : Int) < (l.length : Int) := by omega
          have hjl : (j : Int) < ((idLinks 0 l).length : Int) := by omega
          have HPN := hide hpn
          have HTK := hide (take_succ_some hpn)
          clear hp hpn eA
          by_cases hbi : b = i
          · subst hbi
            have e1 : ((b : Int) == (b : Int)) = true := by simp
            cases hac : s.act a with
            | true =>
              rw [hac] at d0
              have HF : Hid (idl (newRM l) s b = false) := hide (by
                rw [HI.out, List.all_eq_false]
                exact ⟨a, mem_conL.2 (List.mem_of_getElem? HPN.out), by simp [hac]⟩)
              clear hac
              go_wp2
              go_quiet (fail)
              go_wp2
              go_ret
              exact ⟨ret_bool HF.out.symm, _, by rw [HQ.out, World.drewN_drewN]⟩
            | false =>
              rw [hac] at d0
              have HAC := hide hac
              clear hac
              go_wp2
              go_quiet (fail)
              go_wp2
              go_roundg ((idLinks 0 l).length - (j + 1))
              case measure => rw [HM.out]; omega
              case rel =>
                refine ⟨j + 1, by omega, by go_num, fun x hx e => ?_, ⟨_, by rw [HQ.out, World.drewN_drewN]⟩, rfl⟩
                rw [HTK.out] at hx
                rcases List.mem_append.1 hx with hx | hx
                · exact HALL.out x hx e
                · rw [List.mem_singleton.1 hx]; exact HAC.out
          · have e1 : ((b : Int) == (i : Int)) = false := by simp; omega
            have e2 : (b == i) = false := by simp; omega
            have e3 : ¬ (b : Int) = (i : Int) := by omega
            go_wp2
            go_quiet (fail)
            go_wp2
            go_roundg ((idLinks 0 l).length - (j + 1))
            case measure => rw [HM.out]; omega
            case rel =>
              refine ⟨j + 1, by omega, by go_num, fun x hx e => ?_, ⟨_, by rw [HQ.out, World.drewN_drewN]⟩, rfl⟩
              rw [HTK.out] at hx
              rcases List.mem_append.1 hx with hx | hx
              · exact HALL.out x hx e
              · rw [List.mem_singleton.1 hx] at e; exact absurd e hbi
        · have hjl : ¬ (j : Int) < ((idLinks 0 l).length : Int) := by omega
          have HF : Hid (idl (newRM l) s i = true) := hide (by
            rw [HI.out, List.all_eq_true]
            intro c hc
            have := HALL.out (c, i) (by rw [List.take_of_length_le (by rw [HTL.out]; omega)]; exact mem_conL.1 hc) rfl
            simp [this])
          go_wp2
          go_ret
          exact ⟨ret_bool HF.out.symm, _, HQ.out⟩
    · have hu' : (0 : Int) < (s.use i : Int) := by omega
      have hu2 : (s.use i == 0) = false := by simp [hu]
      rw [hu2, Bool.false_and] at HI
      clear hu hu2
      go_enter Try.func54, Try.ntmps54
      go_wp2
      go_ret
      exact ⟨ret_bool HI.out.symm, 0, rfl⟩
def RfRel (w : World) (M : RM) (s : RS) (m : Nat) (b i : Value) (wr : World) : Prop := ∃ k : Nat, k ≤ M.n ∧ i = .int .i64 (k : Int) ∧ b = .int .i64 (optI28 (fstTo M s k)) ∧ (∃ q, wr = w.drewN q) ∧ m = M.n - k
theorem exy_wrap {M : RM} {s : RS} (hM : MOk M) (hs : SOk M s) (i : Nat) : IntKind.u64.wrap ((s.sin i : Int) + (M.dl i : Int)) = (exy M s i : Int) := by
  have h1 := hs.sin i
  have h2 := hM.dl i
  unfold exy
  simp only [IntKind.wrap, IntKind.signed, IntKind.bits]
  simp
  omega
set_option maxHeartbeats 4000000 in
theorem rfirst28_any (h : RgIn w P l s) (hB : basicM (l.length : Int) (idLinks 0 l) = 0) (hM : MOk (newRM l)) (hs : SOk (newRM l) s) : Calls Try.prog 44 #[.pointer (some ⟨P.b, 0, none⟩)] w fun e w' => e = .returned (.int .i64 (optI28 (fstM (newRM l) s))) ∧ ∃ q, w' = w.drewN q := by
  have hn : (newRM l).n = l.length := rfl
  have hnn := hM.n
  have HH := hide h
  have HB := hide hB
  have HX := hide (fun i => exy_wrap hM hs i)
  obtain ⟨M, hMe⟩ : ∃ M, M = newRM l := ⟨_, rfl⟩
  have HC := hide (fun (wr : World) (k : Fr [] w wr) (i : Nat) (hi : i < l.length) => (h.fr0 k).delay hi)
  rw [← hMe] at hn hnn HX HC ⊢
  have HME := hide hMe
  clear h hB hM hs hMe
  go_enter Try.func44, Try.ntmps44
  go_wp2
  go_loopg [3, 4] M.n (fun m b i wr => RfRel w M s m b i wr)
  case atStart => exact ⟨0, by omega, rfl, rfl, ⟨0, rfl⟩, rfl⟩
  case round =>
    obtain ⟨k, hk, rfl, rfl, ⟨q, hq⟩, hmm⟩ := hrel
    have hfr : Fr [] w wr := by rw [hq]; exact (Fr.refl _ _).drewN _
    have HQ := hide hq
    have HM := hide hmm
    clear hmm hq
    have c0 : wr.cell? ⟨P.b, 0, none⟩ = some (.slice P.Ad l.length P.cd) := (HH.out.fr0 hfr).blk.cell 0
    by_cases hlt : k < l.length
    · have hkl : (k : Int) < (l.length : Int) := by omega
      have HS : Hid (fstTo M s (k + 1) = fstStep M s (fstTo M s k) k) := hide rfl
      have HBD : Hid (∀ j, fstTo M s k = some j → j < M.n) := hide (fun j hj => by have := (fstTo_some hj).1; omega)
      obtain ⟨ob, oo, eA, x1⟩ := HC.out wr hfr k hlt
      have c4 : wr.cell? ⟨P.b, 4, none⟩ = some (.slice (some ⟨P.gs, 0, none⟩) l.length l.length) := (HH.out.fr0 hfr).blk.cell 4
      have s1 : wr.cell? ⟨P.gs, k, none⟩ = some (.int .u64 (s.sin k : Int)) := (HH.out.fr0 hfr).sn.cell hlt
      rw [eA] at c0
      have HID := hide (fun (n : Nat) => ridle28_any (w := wr.drewN n) ((HH.out.fr0 hfr).fr0 ((Fr.refl _ _).drewN n)) HB.out hlt)
      rw [← HME.out] at HID
      have w1 := HX.out k
      cases hid : idl M s k with
      | false =>
        have HE : Hid (optI28 (fstTo M s (k + 1)) = optI28 (fstTo M s k)) := hide (by rw [HS.out]; unfold fstStep; rw [if_neg (by simp [hid])])
        rw [hid] at HID
        clear hid w1
        generalize optI28 (fstTo M s k) = oj at HE ⊢
        go_wp2
        go_quiet ((go_at_call 54; exact Calls.quiet_of (HID.out _)))
        go_wp2
        go_roundg (M.n - (k + 1))
        case measure => rw [HM.out]; omega
        case rel => exact ⟨k + 1, by omega, by go_num, by rw [HE.out], ⟨_, by rw [HQ.out, World.drewN_drewN]⟩, rfl⟩
      | true =>
        rw [hid] at HID
        cases hb : fstTo M s k with
        | none =>
          have HE : Hid (fstTo M s (k + 1) = some k) := hide (by rw [HS.out]; unfold fstStep; rw [if_pos ⟨hid, fun j hj => by rw [hb] at hj; cases hj⟩])
          rw [show optI28 none = -1 from rfl]
          clear hid hb w1
          go_wp2
          go_quiet ((go_at_call 54; exact Calls.quiet_of (HID.out _)))
          go_wp2
          go_roundg (M.n - (k + 1))
          case measure => rw [HM.out]; omega
          case rel => exact ⟨k + 1, by omega, by go_num, by rw [HE.out]; rfl, ⟨_, by rw [HQ.out, World.drewN_drewN]⟩, rfl⟩
        | some j =>
          rw [show optI28 (some j) = (j : Int) from rfl]
          have hjn := HBD.out j hb
          have hj0 : ¬ (j : Int) < 0 := by omega
          have hj1 : decide ((j : Int) < 0) = false := by simp
          have hjl : (j : Int) < (l.length : Int) := by omega
          obtain ⟨ob', oo', eA', x2⟩ := HC.out wr hfr j (by omega)
          obtain ⟨rfl, rfl⟩ : ob' = ob ∧ oo' = oo := by rw [eA] at eA'; injection eA' with e; injection e with e1 e2; exact ⟨e1.symm, e2.symm⟩
          have s2 : wr.cell? ⟨P.gs, j, none⟩ = some (.int .u64 (s.sin j : Int)) := (HH.out.fr0 hfr).sn.cell (by omega)
          have w2 := HX.out j
          have HID2 := hide hid
          have HBJ := hide hb
          clear hid hb eA eA'
          by_cases hx : exy M s k < exy M s j
          · have hx' : (exy M s k : Int) < (exy M s j : Int) := by omega
            have HE : Hid (fstTo M s (k + 1) = some k) := hide (by rw [HS.out]; unfold fstStep; rw [if_pos ⟨HID2.out, fun q hq => by rw [HBJ.out] at hq; injection hq with hq; subst hq; exact hx⟩])
            go_wp2
            go_quiet ((go_at_call 54; exact Calls.quiet_of (HID.out _)))
            go_wp2
            go_roundg (M.n - (k + 1))
            case measure => rw [HM.out]; omega
            case rel => exact ⟨k + 1, by omega, by go_num, by rw [HE.out]; rfl, ⟨_, by rw [HQ.out, World.drewN_drewN]⟩, rfl⟩
          · have hx' : ¬ (exy M s k : Int) < (exy M s j : Int) := by omega
            have HE : Hid (fstTo M s (k + 1) = some j) := hide (by rw [HS.out]; unfold fstStep; rw [if_neg (fun hh => hx (hh.2 j HBJ.out)), HBJ.out])
            go_wp2
            go_quiet ((go_at_call 54; exact Calls.quiet_of (HID.out _)))
            go_wp2
            go_roundg (M.n - (k + 1))
            case measure => rw [HM.out]; omega
            case rel => exact ⟨k + 1, by omega, by go_num, by rw [HE.out]; rfl, ⟨_, by rw [HQ.out, World.drewN_drewN]⟩, rfl⟩
    · have hkl : ¬ (k : Int) < (l.length : Int) := by omega
      obtain rfl : k = l.length := by omega
      have HFM : Hid (fstM M s = fstTo M s l.length) := hide (by unfold fstM; rw [hn])
      go_wp2
      go_ret
      exact ⟨by rw [HFM.out]; rfl, _, HQ.out⟩
end
end Go.Proofs.Ytbnfdpemfmeldaa

