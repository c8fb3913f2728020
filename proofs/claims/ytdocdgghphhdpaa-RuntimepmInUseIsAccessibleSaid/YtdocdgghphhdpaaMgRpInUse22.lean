/- Plain: the operations of a power manager, performed on the tree of the same devices. -/
import Derived.Test.YtdocdgghphhdpaaMgRpInUse15
import Derived.Test.YtdocdgghphhdpaaMgRpInUse19
import Derived.Test.YtdocdgghphhdpaaRbWMg
import Derived.Test.YtdocdgghphhdpaaTrW2Mg
import Derived.Test.YtdocdgghphhdpaaDevW12Mg
import Derived.Test.YtdocdgghphhdpaaMgRpInUse7
namespace Go.Proofs.Ytdocdgghphhdpaa
open Go.RowKit

theorem ids_dev8 {C : TC} (hC : TOk C) (hnd : C.nd ≤ 6) {ids : List ID} (hl : ids.length = C.nd) (h : ∀ i d, ids[i]? = some d → d.par = C.par i ∧ d.sv = .slice none 0 0 ∧ d.dl ≤ 11 ∧ d.sup = []) : Dev8 ids := by
  have hlt : ∀ {i d}, ids[i]? = some d → i < C.nd := fun hd => by rw [← hl]; exact (List.getElem?_eq_some_iff.1 hd).1
  refine ⟨by omega, fun i d hd => ?_, fun i d hd => (h i d hd).2.2.1, fun i d hd => ?_, fun i d hd s hs => ?_, fun i d hd => ?_, .inl fun i d hd => ?_⟩
  · have := hC.par i (hlt hd)
    have := hlt hd
    rw [(h i d hd).1]
    omega
  · rw [(h i d hd).2.2.2]
    exact ⟨List.nodup_nil, by simp⟩
  · rw [(h i d hd).2.2.2] at hs
    cases hs
  · rw [(h i d hd).2.2.2]
    simp
  · have := hC.par i (hlt hd)
    rw [(h i d hd).1, (h i d hd).2.2.2]
    exact ⟨this.2, fun s hs => by cases hs⟩
theorem ids_link {C : TC} {ids : List ID} (h8 : Dev8 ids) (hl : ids.length = C.nd) (h : ∀ i d, ids[i]? = some d → d.par = C.par i ∧ d.sv = .slice none 0 0 ∧ d.dl ≤ 11 ∧ d.sup = []) {i q : Nat} (hi : i < C.nd) (hq : C.par i = (q : Int)) : (i, q) ∈ (newRM ids).L := by
  have hd : ids[i]? = some _ := List.getElem?_eq_getElem (by omega)
  have hp := (h i _ hd).1
  have := mem_newL h8 hd (p := (q : Int)) (.inl ⟨by rw [hp, hq]; omega, by rw [hp, hq]⟩)
  simpa using this
/-- The active devices are in D0, the others in D3Cold. -/
structure AppI (C : TC) (on : Nat → Bool) (now : Nat) (s : TSt) : Prop where
  inv : TInv C s
  st : ∀ p, p < C.nd → s.st p = if on p = true then 0 else 4
  clk : s.clk ≤ now
theorem app_step {C : TC} (hC : TOk C) {M : RM} (hM : M.n = C.nd) (hL : ∀ i q : Nat, i < C.nd → C.par i = (q : Int) → (i, q) ∈ M.L) {t now last : Nat} {on : Nat → Bool} {o : POp} {s : TSt} (ho : OpOk M t on last o) (h : AppI C on now s) (hn : now ≤ MaxT) :
    (setM C now (o.dev : Int) (if o.res = true then 0 else 4) s).2.2 = 0 ∧ AppI C (setF on o.dev o.res) now (setM C now (o.dev : Int) (if o.res = true then 0 else 4) s).1 := by
  have hd : o.dev < C.nd := by rw [← hM]; exact ho.lt
  have hclk := h.clk
  cases hr : o.res with
  | true =>
    have hnb : ¬ Blocked C s o.dev 0 := by
      rintro (⟨h1, h2⟩ | ⟨c, _, _, h3⟩)
      · obtain ⟨q, hq⟩ := Int.eq_ofNat_of_zero_le h1
        have hp := hC.par o.dev hd
        have hu := ho.up _ (hL o.dev q hd hq) hr rfl
        rw [hq, Int.toNat_natCast, h.st q (by omega), if_pos hu] at h2
        omega
      · omega
    obtain ⟨e1, e2, e3⟩ := set_ok (k := 0) hd (by omega) hnb hclk hn
    rw [show (((0 : Nat) : Int)) = (0 : Int) from rfl] at e1 e2 e3
    rw [if_pos rfl]
    refine ⟨e1, setM_inv hC h.inv _ _, fun p hp => ?_, by rw [e3]; exact Nat.le_refl _⟩
    rw [e2]
    by_cases e : p = o.dev
    · subst e
      rw [rup_same, setF_self, if_pos rfl]
    · rw [rup_other e, setF_ne _ _ e]
      exact h.st p hp
  | false =>
    have hnb : ¬ Blocked C s o.dev 4 := by
      rintro (⟨_, h2⟩ | ⟨c, hc, h2, h3⟩)
      · have := h.inv.st4 (C.par o.dev).toNat
        omega
      · have hu := ho.dn _ (hL c o.dev hc h2) hr rfl
        rw [h.st c hc, if_neg (by rw [hu]; decide)] at h3
        omega
    obtain ⟨e1, e2, e3⟩ := set_ok (k := 4) hd (by omega) hnb hclk hn
    rw [show (((4 : Nat) : Int)) = (4 : Int) from rfl] at e1 e2 e3
    rw [if_neg (by decide)]
    refine ⟨e1, setM_inv hC h.inv _ _, fun p hp => ?_, by rw [e3]; exact Nat.le_refl _⟩
    rw [e2]
    by_cases e : p = o.dev
    · subst e
      rw [rup_same, setF_self, if_neg (by decide)]
    · rw [rup_other e, setF_ne _ _ e]
      exact h.st p hp
end Go.Proofs.Ytdocdgghphhdpaa

/- Walks: law28's apply and deep. -/
namespace Go.Proofs.Ytdocdgghphhdpaa
open Go.RowKit

def ApR (w : World) (T : TP) (ds : List DV) (C : TC) (on : Nat → Bool) (now : Nat) (ops : List POp) (m : Nat) (v7 : Value) (wr : World) : Prop :=
  ∃ (j : Nat) (s : TSt), j ≤ ops.length ∧ v7 = .int .i64 (j : Int) ∧ TrAt wr T ds C s ∧ AppI C (actsF on (ops.take j)) now s ∧ Fr T.wr w wr ∧ m = ops.length - j
def ApRet (w : World) (T : TP) (ds : List DV) (C : TC) (on : Nat → Bool) (now : Nat) (e : Ending) (w' : World) : Prop :=
  e = .returned (.bool true) ∧ ∃ s, TrAt w' T ds C s ∧ AppI C on now s ∧ Fr T.wr w w'
set_option maxHeartbeats 8000000 in
set_option maxRecDepth 100000 in
theorem apply_any {w : World} {T : TP} {ds : List DV} {C : TC} {s : TSt} (h : TrAt w T ds C s) (hC : TOk C) {M : RM} (hM : M.n = C.nd) (hL : ∀ i q : Nat, i < C.nd → C.par i = (q : Int) → (i, q) ∈ M.L) {t now last : Nat} {on : Nat → Bool} (ops : List POp) (ha : AppI C on now s) (hn : now ≤ MaxT) (hr : Runs M t on last ops) (A : Option Addr) (cp : Nat) (hrow : Row w A (pocs ops)) (hoff : ∀ ad, A = some ad → ad.block ∉ T.wr) (hm : ops.length ≤ 100000) :
    Calls Try.prog 45 #[.pointer (some ⟨T.b, 0, none⟩), .slice A ops.length cp, .int .u64 (now : Int)] w (ApRet w T ds C (actsF on ops) now) := by
  have HAT := hide h
  have HC := hide hC
  have HSTEP : Hid (∀ (on : Nat → Bool) (last : Nat) (o : POp) (s : TSt), OpOk M t on last o → AppI C on now s → _) := hide (fun on last o s ho ha => app_step hC hM hL ho ha hn)
  have HR := hide hr
  have HA := hide ha
  have HROW := hide hrow
  have HOFF := hide hoff
  clear h hC hM hL ha hr hrow hoff hn
  go_enter Try.func45, Try.ntmps45
  go_wp2
  go_loopg [7] ops.length (fun m v7 wr => ApR w T ds C on now ops m v7 wr)
  case atStart => exact ⟨0, s, by omega, rfl, HAT.out, HA.out, Fr.refl _ _, rfl⟩
  case round =>
    clear HAT HA
    obtain ⟨j, s1, hj, rfl, hat, hai, hfr, hmm⟩ := hrel
    have HM := hide hmm
    have HATr := hide hat
    have HAI := hide hai
    clear hmm hat hai
    by_cases hjn : j < ops.length
    · obtain ⟨o, ho⟩ : ∃ o, ops[j]? = some o := ⟨_, List.getElem?_eq_getElem hjn⟩
      obtain ⟨ob, oo, rfl, c0, c1, -⟩ := (row_out HROW.out hfr HOFF.out).pop ho
      have hst := HSTEP.out _ _ _ _ (HR.out.at_ ho) HAI.out
      have HO := hide ho
      have hji : (j : Int) < (ops.length : Int) := by omega
      have HST := hide hst
      have HNX := hide (show actsF on (ops.take (j + 1)) = setF (actsF on (ops.take j)) o.dev o.res from by rw [take_succ_some ho, actsF_snoc])
      clear hst ho
      generalize o.dev = dv at c0 HST HNX
      generalize o.res = rs at c1 HST HNX
      cases rs with
      | true =>
        have HST2 : Hid ((setM C now (dv : Int) 0 s1).2.2 = 0 ∧ AppI C (setF (actsF on (ops.take j)) dv true) now (setM C now (dv : Int) 0 s1).1) := hide (by have := HST.out; rw [if_pos rfl] at this; exact this)
        clear HST
        go_wp2_with fail
        refine (tset_any HATr.out HC.out HAI.out.inv (dv : Int) 0 now).mono ?_
        rintro e w6 ⟨v6, rfl, hat6, hown6, hf6⟩
        obtain ⟨A6, c6, rfl, -, -, -⟩ := own_slice hown6
        obtain ⟨q1, q3⟩ := HST2.out
        generalize setM C now (dv : Int) 0 s1 = r at hat6 q1 q3 hown6 ⊢
        rw [q1]
        have HAT6 := hide hat6
        have HAI6 := hide q3
        have hf06 := hfr.trans hf6
        clear hat6 hown6 q1 q3 HST2 c0 c1
        go_wp2
        go_roundg (ops.length - (j + 1))
        case measure => rw [HM.out]; omega
        case rel => exact ⟨j + 1, r.1, by omega, by go_num, HAT6.out, by rw [HNX.out]; exact HAI6.out, hf06, rfl⟩
      | false =>
        have HST2 : Hid ((setM C now (dv : Int) 4 s1).2.2 = 0 ∧ AppI C (setF (actsF on (ops.take j)) dv false) now (setM C now (dv : Int) 4 s1).1) := hide (by have := HST.out; rw [if_neg (by decide)] at this; exact this)
        clear HST
        go_wp2_with fail
        refine (tset_any HATr.out HC.out HAI.out.inv (dv : Int) 4 now).mono ?_
        rintro e w6 ⟨v6, rfl, hat6, hown6, hf6⟩
        obtain ⟨A6, c6, rfl, -, -, -⟩ := own_slice hown6
        obtain ⟨q1, q3⟩ := HST2.out
        generalize setM C now (dv : Int) 4 s1 = r at hat6 q1 q3 hown6 ⊢
        rw [q1]
        have HAT6 := hide hat6
        have HAI6 := hide q3
        have hf06 := hfr.trans hf6
        clear hat6 hown6 q1 q3 HST2 c0 c1
        go_wp2
        go_roundg (ops.length - (j + 1))
        case measure => rw [HM.out]; omega
        case rel => exact ⟨j + 1, r.1, by omega, by go_num, HAT6.out, by rw [HNX.out]; exact HAI6.out, hf06, rfl⟩
    · have hje : j = ops.length := by omega
      subst hje
      have hji : ¬ (ops.length : Int) < (ops.length : Int) := by omega
      have HE := hide (show AppI C (actsF on ops) now s1 from by have := HAI.out; rw [List.take_length] at this; exact this)
      go_wp2
      go_ret
      exact ⟨rfl, s1, HATr.out, HE.out, hfr⟩
end Go.Proofs.Ytdocdgghphhdpaa

/- Walks: law28's deep. -/
namespace Go.Proofs.Ytdocdgghphhdpaa
open Go.RowKit

def RwO (w : World) (raw : List DV) (m : Nat) (v9 : Value) (wr : World) : Prop := ∃ k : Nat, k ≤ raw.length ∧ v9 = .int .i64 (k : Int) ∧ (∀ x ∈ raw.take k, ∀ q, q < 4 → (x.rl q).length ≤ 20) ∧ w = wr ∧ m = raw.length - k
def RwI (w : World) (x : DV) (m : Nat) (v10 : Value) (wr : World) : Prop := ∃ q : Nat, q ≤ 4 ∧ v10 = .int .i64 (q : Int) ∧ (∀ p, p < q → (x.rl p).length ≤ 20) ∧ w = wr ∧ m = 4 - q
def DeepRet (w : World) (raw : List DV) (n1 nl : Nat) (e : Ending) (w' : World) : Prop := ∃ b, e = .returned (.bool b) ∧ (b = false → raw.length ≤ 20 ∧ n1 ≤ 20 ∧ nl ≤ 40 ∧ ∀ x ∈ raw, ∀ q, q < 4 → (x.rl q).length ≤ 20) ∧ w = w'
set_option maxHeartbeats 8000000 in
set_option maxRecDepth 100000 in
theorem deep_any (A0 : Option Addr) (cp0 : Nat) (raw : List DV) (A1 : Option Addr) (cp1 n1 : Nat) (A2 : Option Addr) (cp2 nl : Nat) (w : World) (hr0 : DvsAt w A0 raw) (hm0 : raw.length ≤ maxLen) (hm1 : n1 ≤ maxLen) (hm2 : nl ≤ maxLen) :
    Calls Try.prog 39 #[.slice A0 raw.length cp0, .slice A1 n1 cp1, .slice A2 nl cp2] w (DeepRet w raw n1 nl) := by
  have HDV := hide hr0
  unfold maxLen at hm0 hm1 hm2
  clear hr0
  go_enter Try.func39, Try.ntmps39
  go_wp2
  go_loopg [7] raw.length (fun m v9 wr => RwO w raw m v9 wr)
  case atStart => exact ⟨0, by omega, rfl, (fun x hx => by simp at hx), rfl, rfl⟩
  case round =>
    obtain ⟨k, hk, rfl, hall, rfl, hmm⟩ := hrel
    have HMO := hide hmm
    have HALL := hide hall
    clear hmm hall
    by_cases hkn : k < raw.length
    · have hki : (k : Int) < (raw.length : Int) := by omega
      obtain ⟨x, hx⟩ : ∃ x, raw[k]? = some x := ⟨_, List.getElem?_eq_getElem hkn⟩
      have HX := hide hx
      clear hx
      go_wp2
      go_loopg [8] 4 (fun m v10 wr => RwI w x m v10 wr)
      case atStart => exact ⟨0, by omega, rfl, (fun p hp => by omega), rfl, rfl⟩
      case round =>
        obtain ⟨q, hq, rfl, hal2, rfl, hmm⟩ := hrel
        have HMI := hide hmm
        have HAL2 := hide hal2
        clear hmm hal2
        by_cases hqn : q < 4
        · have hqi : (q : Int) < 4 := by omega
          obtain ⟨ob, oo, A', cp', rfl, cR, -⟩ := HDV.out.rail HX.out hqn
          by_cases h20 : 20 < (x.rl q).length
          · have g1 : decide ((20 : Int) < ((x.rl q).length : Int)) = true := decide_eq_true (by omega)
            have g1n : decide (20 < (x.rl q).length) = true := decide_eq_true h20
            clear h20
            go_wp2
            go_ret
            exact ⟨true, rfl, (fun h => by cases h), rfl⟩
          · have g1 : decide ((20 : Int) < ((x.rl q).length : Int)) = false := decide_eq_false (by omega)
            have g1n : decide (20 < (x.rl q).length) = false := decide_eq_false h20
            have HQ : Hid (∀ p, p < q + 1 → (x.rl p).length ≤ 20) := hide (fun p hp => by
              by_cases e : p = q
              · subst e; omega
              · exact HAL2.out p (by omega))
            clear h20
            go_wp2
            go_roundg (4 - (q + 1))
            case measure => rw [HMI.out]; omega
            case rel => exact ⟨q + 1, by omega, by go_num, HQ.out, rfl, rfl⟩
        · have hqe : q = 4 := by omega
          subst hqe
          have HQ : Hid (∀ y ∈ raw.take (k + 1), ∀ q, q < 4 → (y.rl q).length ≤ 20) := hide (fun y hy q hq => by
            rw [take_succ_some HX.out, List.mem_append, List.mem_singleton] at hy
            rcases hy with hy | rfl
            · exact HALL.out y hy q hq
            · exact HAL2.out q hq)
          have hqi : ¬ (((4 : Nat) : Int)) < 4 := by omega
          go_wp2
          go_roundg (raw.length - (k + 1))
          case measure => rw [HMO.out]; omega
          case rel => exact ⟨k + 1, by omega, by go_num, HQ.out, rfl, rfl⟩
    · have hke : k = raw.length := by omega
      subst hke
      have hki : ¬ (raw.length : Int) < (raw.length : Int) := by omega
      have HLL : Hid (∀ x ∈ raw, ∀ q, q < 4 → (x.rl q).length ≤ 20) := hide (fun x hx => HALL.out x (by rw [List.take_length]; exact hx))
      clear HALL HMO hki
      by_cases d1 : 20 < raw.length
      · have b1 : decide ((20 : Int) < (raw.length : Int)) = true := decide_eq_true (by omega)
        have b1n : decide (20 < raw.length) = true := decide_eq_true d1
        clear d1
        go_wp2
        go_ret
        exact ⟨true, rfl, (fun h => by cases h), rfl⟩
      have b1 : decide ((20 : Int) < (raw.length : Int)) = false := decide_eq_false (by omega)
      have b1n : decide (20 < raw.length) = false := decide_eq_false d1
      by_cases d2 : 20 < n1
      · have b2 : decide ((20 : Int) < (n1 : Int)) = true := decide_eq_true (by omega)
        have b2n : decide (20 < n1) = true := decide_eq_true d2
        clear d1 d2
        go_wp2
        go_ret
        exact ⟨true, rfl, (fun h => by cases h), rfl⟩
      have b2 : decide ((20 : Int) < (n1 : Int)) = false := decide_eq_false (by omega)
      have b2n : decide (20 < n1) = false := decide_eq_false d2
      by_cases d3 : 40 < nl
      · have b3 : decide ((40 : Int) < (nl : Int)) = true := decide_eq_true (by omega)
        have b3n : decide (40 < nl) = true := decide_eq_true d3
        clear d1 d2 d3
        go_wp2
        go_ret
        exact ⟨true, rfl, (fun h => by cases h), rfl⟩
      have b3 : decide ((40 : Int) < (nl : Int)) = false := decide_eq_false (by omega)
      have b3n : decide (40 < nl) = false := decide_eq_false d3
      go_wp2
      go_ret
      exact ⟨false, rfl, fun _ => ⟨by omega, by omega, by omega, HLL.out⟩, rfl⟩
end Go.Proofs.Ytdocdgghphhdpaa

