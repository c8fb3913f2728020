/- Plain: how late a rail becomes steady: small bounds for each operation of a power manager. -/
import Derived.Test.YtdocdgghphhdpaaMgRpInUse22
import Derived.Test.YtdocdgghphhdpaaMgRpInUse9
import Derived.Test.YtdocdgghphhdpaaTrW2Mg
namespace Go.Proofs.Ytdocdgghphhdpaa
open Go.RowKit

theorem chn_all {n : Nat} {R : Nat → RailD} {k : Nat} {L : List Nat} (h : Chn n R k L) : (k :: L).Nodup ∧ ∀ x ∈ k :: L, x < n := by
  induction h with
  | @root k hk _ => exact ⟨by simp, fun x hx => by rw [List.mem_singleton.1 hx]; exact hk⟩
  | @next k q L hk _ _ hn ih =>
    refine ⟨List.nodup_cons.2 ⟨hn, ih.1⟩, fun x hx => ?_⟩
    rcases List.mem_cons.1 hx with rfl | hx
    · exact hk
    · exact ih.2 x hx
theorem chn_len {n : Nat} {R : Nat → RailD} {k : Nat} {L : List Nat} (h : Chn n R k L) (h8 : n ≤ 8) : L.length + 1 ≤ 8 := by
  have h1 := nodup_length_le (chn_all h).2 (chn_all h).1
  rw [List.length_cons] at h1
  omega
section
variable {C : TC} (hlim : ∀ k, k < C.n → (C.R k).up < 20 ∧ (C.R k).dn < 20)
include hlim
theorem addC_late {now k B : Nat} {L : List Nat} (hc : Chn C.n C.R k L) (hnow : now ≤ B) : ∀ {r : RSt}, (∀ j, r.dn j ≤ B) → ∀ j, (addC C.R now k L r).1.dn j ≤ B + 20 * (L.length + 1) := by
  induction hc with
  | @root k hk hs =>
    intro r h j
    have hu := (hlim k hk).1
    unfold addC
    split
    · show rup r.dn k ((max now (r.dn k) + (C.R k).up) % W64) j ≤ _
      by_cases e : j = k
      · subst e
        rw [rup_same]
        have h1 := Nat.mod_le (max now (r.dn j) + (C.R j).up) W64
        have h2 := h j
        simp only [List.length_nil]
        omega
      · rw [rup_other e]
        have := h j
        omega
    · have := h j
      show r.dn j ≤ _
      omega
  | @next k q L hk hs hc hn ih =>
    intro r h j
    have hu := (hlim k hk).1
    unfold addC
    split
    · have hi := ih h
      generalize addC C.R now q L r = A at hi ⊢
      show rup A.1.dn k ((max (max now (r.dn k)) (A.1.dn q) + (C.R k).up) % W64) j ≤ _
      simp only [List.length_cons]
      by_cases e : j = k
      · subst e
        rw [rup_same]
        have h1 := Nat.mod_le (max (max now (r.dn j)) (A.1.dn q) + (C.R j).up) W64
        have h2 := h j
        have h3 := hi q
        omega
      · rw [rup_other e]
        have := hi j
        omega
    · have := h j
      show r.dn j ≤ _
      omega
theorem acqF_late (hC : TOk C) (h8 : C.n ≤ 8) {now : Nat} : ∀ (l : List Int) {r : RSt} {B : Nat}, (∀ v ∈ l, 0 ≤ v ∧ v < (C.n : Int)) → now ≤ B → (∀ j, r.dn j ≤ B) → ∀ j, (acqF C now l r).1.dn j ≤ B + 160 * l.length
  | [], _, _, _, _, h, j => by simpa [acqF] using h j
  | v :: l, r, B, hv, hB, h, j => by
    have h0 := hv v (List.mem_cons_self ..)
    obtain ⟨hch, -⟩ := hC.ch v.toNat (by omega)
    have hcl := chn_len hch h8
    have h1 := addC_late hlim hch hB (r := { r with clk := now }) h
    have h1b : ∀ j, (addC C.R now v.toNat (C.ch v.toNat) { r with clk := now }).1.dn j ≤ B + 160 := fun j => Nat.le_trans (h1 j) (by omega)
    have h2 := acqF_late hC h8 (now := now) l (B := B + 160) (fun v hm => hv v (List.mem_cons_of_mem _ hm)) (by omega) h1b j
    rw [acqF, List.length_cons]
    simp only
    omega
omit hlim in
theorem startD_late {R : Nat → RailD} {now k B : Nat} {r : RSt} (hnow : now ≤ B) (h : ∀ j, r.dn j ≤ B) : ∀ i, startD R k now r i ≤ B
  | 0 => by have := h k; unfold startD; omega
  | i + 1 => by
    have h1 := startD_late (R := R) (k := k) hnow h i
    have h2 := h i
    unfold startD
    split <;> omega
theorem remS_late {now k B : Nat} (hk : k < C.n) (hnow : now ≤ B) {r : RSt} (h : ∀ j, r.dn j ≤ B) (j : Nat) : (remS C.n C.R now k r).dn j ≤ B + 20 := by
  have hu := (hlim k hk).2
  have hs := startD_late (R := C.R) (k := k) hnow h C.n
  show rup r.dn k ((startD C.R k now r C.n + (C.R k).dn) % W64) j ≤ _
  by_cases e : j = k
  · subst e
    rw [rup_same]
    have h1 := Nat.mod_le (startD C.R j now r C.n + (C.R j).dn) W64
    omega
  · rw [rup_other e]
    have := h j
    omega
theorem remC_late {now k : Nat} {L : List Nat} (hc : Chn C.n C.R k L) : ∀ {B : Nat} {r : RSt}, now ≤ B → (∀ j, r.dn j ≤ B) → ∀ j, (remC C.n C.R now k L r).1.dn j ≤ B + 20 * (L.length + 1) := by
  induction hc with
  | @root k hk hs =>
    intro B r hnow h j
    have h1 := remS_late hlim hk hnow h j
    have h2 := h j
    unfold remC
    split
    · show r.dn j ≤ _
      omega
    · show (remS C.n C.R now k r).dn j ≤ _
      simp only [List.length_nil]
      omega
  | @next k q L hk hs hc hn ih =>
    intro B r hnow h j
    have h2 := h j
    unfold remC
    split
    · show r.dn j ≤ _
      omega
    · have h1 := ih (B := B + 20) (r := remS C.n C.R now k r) (by omega) (remS_late hlim hk hnow h) j
      show (remC C.n C.R now q L (remS C.n C.R now k r)).1.dn j ≤ _
      rw [List.length_cons]
      omega
theorem relF_late (hC : TOk C) (h8 : C.n ≤ 8) {now : Nat} : ∀ (l : List Int) {r : RSt} {B : Nat}, (∀ v ∈ l, 0 ≤ v ∧ v < (C.n : Int)) → now ≤ B → (∀ j, r.dn j ≤ B) → ∀ j, (relF C now l r).1.dn j ≤ B + 160 * l.length
  | [], _, _, _, _, h, j => by simpa [relF] using h j
  | v :: l, r, B, hv, hB, h, j => by
    have h0 := hv v (List.mem_cons_self ..)
    obtain ⟨hch, -⟩ := hC.ch v.toNat (by omega)
    have hcl := chn_len hch h8
    have h1 := remC_late hlim hch (r := { r with clk := now }) hB h
    have h1b : ∀ j, (remC C.n C.R now v.toNat (C.ch v.toNat) { r with clk := now }).1.dn j ≤ B + 160 := fun j => Nat.le_trans (h1 j) (by omega)
    have h2 := relF_late hC h8 (now := now) l (B := B + 160) (fun v hm => hv v (List.mem_cons_of_mem _ hm)) (by omega) h1b j
    rw [relF, List.length_cons]
    simp only
    omega
omit hlim in
theorem rl_len (hC : TOk C) (h8 : C.n ≤ 8) {d : Nat} (hd : d < C.nd) : (C.rl d 0).length ≤ 8 := by
  have h1 : (C.rl d 0).Nodup := asc_nodup (hC.asc d 0)
  have h2 : ∀ v ∈ C.rl d 0, 0 ≤ v ∧ v < (C.n : Int) := fun v hv => hC.rail d 0 hd v hv
  have h3 : ((C.rl d 0).map Int.toNat).Nodup := by
    refine List.pairwise_map.2 (List.Pairwise.imp_of_mem (fun ha hb hab e => hab ?_) h1)
    have := h2 _ ha
    have := h2 _ hb
    omega
  have h4 := nodup_length_le (n := C.n) (o := (C.rl d 0).map Int.toNat) (fun v hv => by
    obtain ⟨x, hx, rfl⟩ := List.mem_map.1 hv
    have := h2 x hx
    omega) h3
  rw [List.length_map] at h4
  omega
/-- An operation makes no rail steady later than 1280 after all. -/
theorem app_late (hC : TOk C) (h8 : C.n ≤ 8) {M : RM} (hM : M.n = C.nd) {t now last B : Nat} {on : Nat → Bool} {o : POp} {s : TSt} (ho : OpOk M t on last o) (h : AppI C on now s) (hB : now ≤ B) (hd : ∀ j, s.r.dn j ≤ B) :
    ∀ j, (setM C now (o.dev : Int) (if o.res = true then 0 else 4) s).1.r.dn j ≤ B + 1280 := by
  have hdv : o.dev < C.nd := by rw [← hM]; exact ho.lt
  have hst := h.st o.dev hdv
  have hrl := rl_len hC h8 hdv
  have hv : ∀ v ∈ C.rl o.dev 0, 0 ≤ v ∧ v < (C.n : Int) := fun v hv => hC.rail o.dev 0 hdv v hv
  intro j
  have hj := hd j
  rw [ho.alt] at hst
  cases hr : o.res with
  | true =>
    rw [hr] at hst
    have hst4 : s.st o.dev = 4 := hst
    have hacq : acqs C s o.dev 0 = C.rl o.dev 0 := by
      unfold acqs
      rw [hst4]
      show diffM (C.rl o.dev 0) [] = _
      exact diff_nil _
    have hrel : rels C s o.dev 0 = [] := by
      unfold rels
      rw [hst4]
      rfl
    rw [if_pos rfl]
    unfold setM
    split
    · show s.r.dn j ≤ _
      omega
    split
    · show s.r.dn j ≤ _
      omega
    rw [Int.toNat_natCast, show (0 : Int).toNat = 0 from rfl, setOk, hacq, hrel]
    have := acqF_late hlim hC h8 (now := now) (C.rl o.dev 0) hv hB hd j
    show (acqF C now (C.rl o.dev 0) s.r).1.dn j ≤ _
    omega
  | false =>
    rw [hr] at hst
    have hst0 : s.st o.dev = 0 := hst
    have hacq : acqs C s o.dev 4 = [] := by
      unfold acqs
      rw [hst0]
      rfl
    have hrel : rels C s o.dev 4 = (C.rl o.dev 0).reverse := by
      unfold rels
      rw [hst0]
      show (diffM (C.rl o.dev 0) []).reverse = _
      rw [diff_nil]
    rw [if_neg (by decide)]
    unfold setM
    split
    · show s.r.dn j ≤ _
      omega
    split
    · show s.r.dn j ≤ _
      omega
    rw [Int.toNat_natCast, show (4 : Int).toNat = 4 from rfl, setOk, hacq, hrel]
    have := relF_late hlim hC h8 (now := now) (C.rl o.dev 0).reverse (fun v hm => hv v (List.mem_reverse.1 hm)) hB hd j
    rw [List.length_reverse] at this
    show (relF C now (C.rl o.dev 0).reverse s.r).1.dn j ≤ _
    omega
end
/-- A device that is active, with all its ancestors: accessible once the rails are steady. -/
theorem app_acc {C : TC} (hC : TOk C) {on : Nat → Bool} {now : Nat} {s : TSt} (h : AppI C on now s) (hup : ∀ i q : Nat, i < C.nd → C.par i = (q : Int) → on i = true → on q = true) {P : RP} (hP : P.n = C.n) {t : Nat} (hd : ∀ j, s.r.dn j ≤ t) {k : Nat} (hk : k < C.nd) (hon : on k = true) : accM C P s (k : Int) t = true := by
  obtain ⟨L, hL⟩ := pth_ex hC k k (Nat.le_refl _) hk
  have hall : ∀ p ∈ L, on p = true := by
    induction hL with
    | root _ _ => intro p hp; rw [List.mem_singleton.1 hp]; exact hon
    | @next k q L hk hq hL ih =>
      intro p hp
      rcases List.mem_cons.1 hp with rfl | hp
      · exact hon
      · exact ih hL.lt (hup _ _ hk hq hon) p hp
  rw [acc_path hC hL]
  refine List.all_eq_true.2 (fun p hp => ?_)
  have hpn := (hL.le hC p hp).2
  have hst : s.st p = 0 := by rw [h.st p hpn, if_pos (hall p hp)]
  unfold accR
  rw [Bool.and_eq_true]
  refine ⟨decide_eq_true hst, List.all_eq_true.2 (fun v hv => ?_)⟩
  have hb := hC.rail p 0 hpn v hv
  have h1 := h.inv.own v.toNat (by omega)
  have h2 := useN_pos (C := C) (d := p) (st := s.st) (j := v.toNat) (by
    rw [hst, Int.toNat_of_nonneg hb.1]
    exact hv) C.nd hpn
  have h3 : useF C s.st v.toNat = useN C s.st v.toNat C.nd := rfl
  have hd := hd v.toNat
  unfold powI useI
  rw [hP]
  simp only [Bool.and_eq_true, decide_eq_true_eq]
  exact ⟨⟨hb, by omega⟩, hd⟩
end Go.Proofs.Ytdocdgghphhdpaa

/- Walks: law28's apply, with a bound of the times at which the rails are steady. -/
namespace Go.Proofs.Ytdocdgghphhdpaa
open Go.RowKit

def ApL (w : World) (T : TP) (ds : List DV) (C : TC) (on : Nat → Bool) (now : Nat) (ops : List POp) (B : Nat) (m : Nat) (v7 : Value) (wr : World) : Prop :=
  ∃ (j : Nat) (s : TSt), j ≤ ops.length ∧ v7 = .int .i64 (j : Int) ∧ TrAt wr T ds C s ∧ AppI C (actsF on (ops.take j)) now s ∧ (∀ x, s.r.dn x ≤ B + 1280 * j) ∧ Fr T.wr w wr ∧ m = ops.length - j
def ApLRet (w : World) (T : TP) (ds : List DV) (C : TC) (on : Nat → Bool) (now B : Nat) (e : Ending) (w' : World) : Prop :=
  e = .returned (.bool true) ∧ ∃ s, TrAt w' T ds C s ∧ AppI C on now s ∧ (∀ x, s.r.dn x ≤ B) ∧ Fr T.wr w w'
set_option maxHeartbeats 8000000 in
set_option maxRecDepth 100000 in
theorem applyL_any {w : World} {T : TP} {ds : List DV} {C : TC} {s : TSt} (h : TrAt w T ds C s) (hC : TOk C) {M : RM} (hM : M.n = C.nd) (hL : ∀ i q : Nat, i < C.nd → C.par i = (q : Int) → (i, q) ∈ M.L) {t now last : Nat} {on : Nat → Bool} (ops : List POp) (ha : AppI C on now s) (hn : now ≤ MaxT) (hr : Runs M t on last ops) (A : Option Addr) (cp : Nat) (hrow : Row w A (pocs ops)) (hoff : ∀ ad, A = some ad → ad.block ∉ T.wr) (hm : ops.length ≤ 100000) {B : Nat} (hlim : ∀ k, k < C.n → (C.R k).up < 20 ∧ (C.R k).dn < 20) (h8 : C.n ≤ 8) (hB : now ≤ B) (hd : ∀ x, s.r.dn x ≤ B) :
    Calls Try.prog 45 #[.pointer (some ⟨T.b, 0, none⟩), .slice A ops.length cp, .int .u64 (now : Int)] w (ApLRet w T ds C (actsF on ops) now (B + 1280 * ops.length)) := by
  have HAT := hide h
  have HC := hide hC
  have HSTEP : Hid (∀ (on : Nat → Bool) (last : Nat) (o : POp) (s : TSt), OpOk M t on last o → AppI C on now s → _) := hide (fun on last o s ho ha => app_step hC hM hL ho ha hn)
  have HLATE : Hid (∀ (on : Nat → Bool) (last : Nat) (o : POp) (s : TSt) (j : Nat), OpOk M t on last o → AppI C on now s → (∀ x, s.r.dn x ≤ B + 1280 * j) → ∀ x, (setM C now (o.dev : Int) (if o.res = true then 0 else 4) s).1.r.dn x ≤ B + 1280 * (j + 1)) := hide (fun on last o s j ho ha hd x => Nat.le_trans (app_late hlim hC h8 hM ho ha (by omega) hd x) (by omega))
  have HD := hide hd
  have HR := hide hr
  have HA := hide ha
  have HROW := hide hrow
  have HOFF := hide hoff
  clear h hC hM hL ha hr hrow hoff hn hlim h8 hB hd
  go_enter Try.func45, Try.ntmps45
  go_wp2
  go_loopg [7] ops.length (fun m v7 wr => ApL w T ds C on now ops B m v7 wr)
  case atStart => exact ⟨0, s, by omega, rfl, HAT.out, HA.out, fun x => Nat.le_trans (HD.out x) (Nat.le_add_right _ _), Fr.refl _ _, rfl⟩
  case round =>
    clear HAT HA HD
    obtain ⟨j, s1, hj, rfl, hat, hai, hdn, hfr, hmm⟩ := hrel
    have HDN := hide hdn
    clear hdn
    have HM := hide hmm
    have HATr := hide hat
    have HAI := hide hai
    clear hmm hat hai
    by_cases hjn : j < ops.length
    · obtain ⟨o, ho⟩ : ∃ o, ops[j]? = some o := ⟨_, List.getElem?_eq_getElem hjn⟩
      obtain ⟨ob, oo, rfl, c0, c1, -⟩ := (row_out HROW.out hfr HOFF.out).pop ho
      have hst := HSTEP.out _ _ _ _ (HR.out.at_ ho) HAI.out
      have HO := hide ho
      have HLT := hide (HLATE.out _ _ _ _ j (HR.out.at_ ho) HAI.out HDN.out)
      have hji : (j : Int) < (ops.length : Int) := by omega
      have HST := hide hst
      have HNX := hide (show actsF on (ops.take (j + 1)) = setF (actsF on (ops.take j)) o.dev o.res from by rw [take_succ_some ho, actsF_snoc])
      clear hst ho
      generalize o.dev = dv at c0 HST HNX HLT
      generalize o.res = rs at c1 HST HNX HLT
      cases rs with
      | true =>
        have HST2 : Hid ((setM C now (dv : Int) 0 s1).2.2 = 0 ∧ AppI C (setF (actsF on (ops.take j)) dv true) now (setM C now (dv : Int) 0 s1).1) := hide (by have := HST.out; rw [if_pos rfl] at this; exact this)
        have HLT2 : Hid (∀ x, (setM C now (dv : Int) 0 s1).1.r.dn x ≤ B + 1280 * (j + 1)) := hide (by have := HLT.out; rw [if_pos rfl] at this; exact this)
        clear HST HLT
        go_wp2_with fail
        refine (tset_any HATr.out HC.out HAI.out.inv (dv : Int) 0 now).mono ?_
        rintro e w6 ⟨v6, rfl, hat6, hown6, hf6⟩
        obtain ⟨A6, c6, rfl, -, -, -⟩ := own_slice hown6
        obtain ⟨q1, q3⟩ := HST2.out
        generalize setM C now (dv : Int) 0 s1 = r at hat6 q1 q3 hown6 HLT2 ⊢
        rw [q1]
        have HAT6 := hide hat6
        have HAI6 := hide q3
        have hf06 := hfr.trans hf6
        clear hat6 hown6 q1 q3 HST2 c0 c1
        go_wp2
        go_roundg (ops.length - (j + 1))
        case measure => rw [HM.out]; omega
        case rel => exact ⟨j + 1, r.1, by omega, by go_num, HAT6.out, by rw [HNX.out]; exact HAI6.out, HLT2.out, hf06, rfl⟩
      | false =>
        have HST2 : Hid ((setM C now (dv : Int) 4 s1).2.2 = 0 ∧ AppI C (setF (actsF on (ops.take j)) dv false) now (setM C now (dv : Int) 4 s1).1) := hide (by have := HST.out; rw [if_neg (by decide)] at this; exact this)
        have HLT2 : Hid (∀ x, (setM C now (dv : Int) 4 s1).1.r.dn x ≤ B + 1280 * (j + 1)) := hide (by have := HLT.out; rw [if_neg (by decide)] at this; exact this)
        clear HST HLT
        go_wp2_with fail
        refine (tset_any HATr.out HC.out HAI.out.inv (dv : Int) 4 now).mono ?_
        rintro e w6 ⟨v6, rfl, hat6, hown6, hf6⟩
        obtain ⟨A6, c6, rfl, -, -, -⟩ := own_slice hown6
        obtain ⟨q1, q3⟩ := HST2.out
        generalize setM C now (dv : Int) 4 s1 = r at hat6 q1 q3 hown6 HLT2 ⊢
        rw [q1]
        have HAT6 := hide hat6
        have HAI6 := hide q3
        have hf06 := hfr.trans hf6
        clear hat6 hown6 q1 q3 HST2 c0 c1
        go_wp2
        go_roundg (ops.length - (j + 1))
        case measure => rw [HM.out]; omega
        case rel => exact ⟨j + 1, r.1, by omega, by go_num, HAT6.out, by rw [HNX.out]; exact HAI6.out, HLT2.out, hf06, rfl⟩
    · have hje : j = ops.length := by omega
      subst hje
      have hji : ¬ (ops.length : Int) < (ops.length : Int) := by omega
      have HE := hide (show AppI C (actsF on ops) now s1 from by have := HAI.out; rw [List.take_length] at this; exact this)
      go_wp2
      go_ret
      exact ⟨rfl, s1, HATr.out, HE.out, HDN.out, hfr⟩
end Go.Proofs.Ytdocdgghphhdpaa

