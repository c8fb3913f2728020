/- Walks: the reference's input, and its plan: ended, ready, free. -/
import Derived.Test.YtinengemeppefaaSchW9Mg
import Derived.Test.YtinengemeppefaaGraR4Mg
import Derived.Test.YtinengemeppefaaGraM6Mg
namespace Go.Proofs.Ytinengemeppefaa
open Go.RowKit

def RinOk (n : Int) (dur : List Nat) (W : Int) : Prop := (dur.length : Int) = n ∧ 0 ≤ W ∧ W ≤ 16 ∧ ∀ d ∈ dur, d ≤ maxD
instance (n : Int) (dur : List Nat) (W : Int) : Decidable (RinOk n dur W) := by unfold RinOk; infer_instance
def rinM (n : Int) (l : List (Int × Int)) (dur : List Nat) (W : Int) : Int := if checkM n l = 0 then (if RinOk n dur W then 0 else 1) else checkM n l
theorem rinM_bad {n : Int} {l : List (Int × Int)} {dur : List Nat} {W : Int} (h : ¬ checkM n l = 0) : rinM n l dur W = checkM n l := by simp [rinM, h]
theorem rinM_no {n : Int} {l : List (Int × Int)} {dur : List Nat} {W : Int} (h : checkM n l = 0) (k : ¬ RinOk n dur W) : rinM n l dur W = 1 := by simp [rinM, h, k]
theorem rinM_ok {n : Int} {l : List (Int × Int)} {dur : List Nat} {W : Int} (h : checkM n l = 0) (k : RinOk n dur W) : rinM n l dur W = 0 := by simp [rinM, h, k]
/-- With at least one worker the reference's input is the program's. -/
theorem rinM_chk {n : Int} {l : List (Int × Int)} {dur : List Nat} {W : Int} (h : ¬ W = 0) : rinM n l dur W = chkM n l dur W := by
  unfold rinM chkM
  have : RinOk n dur W ↔ ChkOk n dur W := by
    unfold RinOk ChkOk
    constructor
    · rintro ⟨h1, h2, h3, h4⟩; exact ⟨h1, by omega, h3, h4⟩
    · rintro ⟨h1, h2, h3, h4⟩; exact ⟨h1, by omega, h3, h4⟩
  by_cases h1 : checkM n l = 0
  · by_cases h2 : ChkOk n dur W
    · simp [h1, h2, this]
    · simp [h1, h2, this]
  · simp [h1]
theorem rinM_zero_wk {n : Int} {l : List (Int × Int)} {dur : List Nat} : chkM n l dur 0 = if rinM n l dur 0 = 0 then 1 else rinM n l dur 0 := by
  unfold rinM chkM
  have : ¬ ChkOk n dur 0 := fun h => by have := h.2.1; omega
  by_cases h1 : checkM n l = 0
  · by_cases h2 : RinOk n dur 0
    · simp [h1, h2, this]
    · simp [h1, h2, this]
  · simp [h1]
theorem rinM_cp {n : Int} {l : List (Int × Int)} {dur : List Nat} : rinM n l dur 0 = chkM n l dur 1 := by
  unfold rinM chkM
  have : RinOk n dur 0 ↔ ChkOk n dur 1 := by
    unfold RinOk ChkOk
    constructor
    · rintro ⟨h1, h2, h3, h4⟩; exact ⟨h1, by omega, by omega, h4⟩
    · rintro ⟨h1, h2, h3, h4⟩; exact ⟨h1, by omega, by omega, h4⟩
  by_cases h1 : checkM n l = 0
  · by_cases h2 : ChkOk n dur 1
    · simp [h1, h2, this]
    · simp [h1, h2, this]
  · simp [h1]
set_option maxHeartbeats 2000000 in
theorem rinput31_any (n W : Int) (A B : Option Addr) (cp cq : Nat) (l : List (Int × Int)) (dur : List Nat) (w : World) (hr : Row w A (pcs l)) (hb : Row w B (dur.map uv)) (hm : l.length ≤ 4096) :
    Calls Try.prog 33 #[.int .i64 n, .slice A l.length cp, .slice B dur.length cq, .int .i64 W] w fun e w' => e = .returned (.int .i64 (rinM n l dur W)) ∧ Fr [] w w' := by
  have HB := hide hb
  have HR := hide hr
  clear hr hb
  go_enter Try.func33, Try.ntmps33
  go_wp2_with fail
  refine (rcheck_any24 n A cp l w HR.out hm).mono ?_
  rintro e w1 ⟨rfl, hf1⟩
  by_cases hc : checkM n l = 0
  · rw [hc]
    have HC := hide hc
    have hn : n ≤ 128 := by
      obtain ⟨N, e, h1, -⟩ := orderM_zero hc
      omega
    clear hc
    by_cases h3 : (dur.length : Int) = n ∧ 0 ≤ W ∧ W ≤ 16
    · obtain ⟨h1, h2, h3⟩ := h3
      have hne : ((dur.length : Int) != n) = false := by simp [h1]
      have HL := hide h1
      have hdl : dur.length ≤ 128 := by omega
      obtain ⟨N, hN⟩ := Int.eq_ofNat_of_zero_le (show 0 ≤ n by omega)
      subst hN
      clear h1
      go_wp2
      go_loopg [10] dur.length (fun m i wr => DurRel w1 dur m i wr)
      case atStart => exact ⟨0, by omega, rfl, by simp, rfl, rfl⟩
      case round =>
        obtain ⟨k, hk, rfl, hall, rfl, hmm⟩ := hrel
        have HM := hide hmm
        have HALL := hide hall
        clear hmm hall
        by_cases hlt : k < dur.length
        · obtain ⟨x, hx⟩ : ∃ x, dur[k]? = some x := ⟨_, List.getElem?_eq_getElem hlt⟩
          obtain ⟨ob, oo, rfl, c1⟩ := (HB.out.fr0 hf1).uint hx
          have hkl : (k : Int) < (dur.length : Int) := by omega
          have hkn : (k : Int) < (N : Int) := by have := HL.out; omega
          have HX := hide hx
          clear hx
          by_cases hgt : maxD < x
          · have hgt' : (9007199254740992 : Int) < (x : Int) := by unfold maxD at hgt; omega
            have hno : rinM N l dur W = 1 := rinM_no HC.out (fun h => by have := h.2.2.2 x (List.mem_of_getElem? HX.out); omega)
            have HNO := hide hno
            clear hno hgt
            go_wp2
            go_ret
            exact ⟨ret_int HNO.out.symm, hf1⟩
          · have hgt' : ¬ (9007199254740992 : Int) < (x : Int) := by unfold maxD at hgt; omega
            go_wp2
            go_roundg (dur.length - (k + 1))
            case measure => rw [HM.out]; omega
            case rel =>
              refine ⟨k + 1, by omega, by go_num, fun y hy => ?_, rfl, rfl⟩
              rw [take_succ_some HX.out] at hy
              rcases List.mem_append.1 hy with h | h
              · exact HALL.out y h
              · rw [List.mem_singleton.1 h]; omega
        · have hkn : ¬ (k : Int) < (N : Int) := by have := HL.out; omega
          have hall := HALL.out
          rw [List.take_of_length_le (by omega)] at hall
          have hok : rinM N l dur W = 0 := rinM_ok HC.out ⟨HL.out, h2, h3, hall⟩
          have HOK := hide hok
          clear hok hall
          go_wp2
          go_ret
          exact ⟨ret_int HOK.out.symm, hf1⟩
    · have hno : rinM n l dur W = 1 := rinM_no HC.out (fun h => h3 ⟨h.1, h.2.1, h.2.2.1⟩)
      have HNO := hide hno
      have hway : ¬ (dur.length : Int) = n ∨ ((dur.length : Int) = n ∧ W < 0) ∨ ((dur.length : Int) = n ∧ 0 ≤ W ∧ 16 < W) := by omega
      clear hno h3
      rcases hway with h | ⟨h, h2⟩ | ⟨h, h2, h3⟩
      · have hne : ((dur.length : Int) != n) = true := by simp [h]
        clear h
        go_wp2
        go_ret
        exact ⟨ret_int HNO.out.symm, hf1⟩
      · have hne : ((dur.length : Int) != n) = false := by simp [h]
        clear h
        go_wp2
        go_ret
        exact ⟨ret_int HNO.out.symm, hf1⟩
      · have hne : ((dur.length : Int) != n) = false := by simp [h]
        clear h
        go_wp2
        go_ret
        exact ⟨ret_int HNO.out.symm, hf1⟩
  · have hne : (checkM n l != 0) = true := by simp [hc]
    have HM1 := hide (rinM_bad (dur := dur) (W := W) hc)
    clear hc
    go_wp2
    go_ret
    exact ⟨ret_int HM1.out.symm, hf1⟩

/-- Where a device's slot is, or -1. -/
def atOf (sl : List Slt) (d : Nat) : Int := optI (sl.findIdx? fun x => x.d == d)
theorem atOf_snoc {sl : List Slt} {x : Slt} (h : ∀ y ∈ sl, y.d ≠ x.d) (d : Nat) : atOf (sl ++ [x]) d = if d = x.d then (sl.length : Int) else atOf sl d := by
  unfold atOf
  rw [List.findIdx?_append]
  by_cases e : d = x.d
  · rw [if_pos e]
    have hn : (sl.findIdx? fun y => y.d == d) = none := by
      rw [List.findIdx?_eq_none_iff]
      intro y hy
      have := h y hy
      simp
      omega
    rw [hn]
    simp [e, List.findIdx?_cons, optI]
  · rw [if_neg e]
    have : ¬ x.d = d := fun h' => e h'.symm
    cases (sl.findIdx? fun y => y.d == d) <;> simp [List.findIdx?_cons, this]
theorem atOf_cases (sl : List Slt) (d : Nat) : (atOf sl d = -1 ∧ ∀ x ∈ sl, x.d ≠ d) ∨ ∃ (i : Nat) (x : Slt), atOf sl d = (i : Int) ∧ sl[i]? = some x ∧ x.d = d := by
  unfold atOf
  cases h : sl.findIdx? fun x => x.d == d with
  | none =>
    rw [List.findIdx?_eq_none_iff] at h
    refine .inl ⟨rfl, fun x hx e => ?_⟩
    have := h x hx
    simp [e] at this
  | some i =>
    rw [List.findIdx?_eq_some_iff_getElem] at h
    obtain ⟨hi, h1, _⟩ := h
    exact .inr ⟨i, sl[i], rfl, List.getElem?_eq_getElem hi, by simpa using h1⟩
/-- The plan's block: the links, the slots, the table of indices, the time. -/
structure PlanIn (w : World) (base b N : Nat) (Al : Option Addr) (cl : Nat) (L : List (Nat × Nat)) (p : St) (v va : Value) : Prop where
  blk : Blk w b 65 #[.slice Al L.length cl, v, va, uv p.now]
  row : Row w Al (pcs (ofNs L))
  at_ : w.ownsRow base 3 1 va N (((List.range N).map (atOf p.sl)).map iv)
  sl : w.ownsRow base 38 4 v p.sl.length (scells p.sl)
  low : base ≤ b
def PlanAt (w : World) (base b N : Nat) (Al : Option Addr) (cl : Nat) (L : List (Nat × Nat)) (p : St) : Prop := ∃ v va, PlanIn w base b N Al cl L p v va
theorem PlanIn.fr0 {w w' : World} {base b N : Nat} {Al : Option Addr} {cl : Nat} {L : List (Nat × Nat)} {p : St} {v va : Value} (h : PlanIn w base b N Al cl L p v va) (k : Fr [] w w') : PlanIn w' base b N Al cl L p v va :=
  ⟨h.blk.fr k (by simp), h.row.fr0 k, own_fr h.at_ k (fun _ _ => by simp), own_fr h.sl k (fun _ _ => by simp), h.low⟩
theorem PlanAt.fr0 {w w' : World} {base b N : Nat} {Al : Option Addr} {cl : Nat} {L : List (Nat × Nat)} {p : St} (h : PlanAt w base b N Al cl L p) (k : Fr [] w w') : PlanAt w' base b N Al cl L p := by
  obtain ⟨v, va, h⟩ := h
  exact ⟨v, va, h.fr0 k⟩
theorem InvS.atEnded {N W : Nat} {L : List (Nat × Nat)} {D : Nat → Nat} {p : St} (h : InvS N L D W p) {i : Nat} {x : Slt} (hx : p.sl[i]? = some x) : endedB p.sl p.now x.d = decide (x.e ≤ p.now) := by
  have hm := List.mem_of_getElem? hx
  rw [h.ended, endOf_mem h.nodup hm, started_iff.2 ⟨x, hm, rfl⟩, Bool.true_and]
set_option maxHeartbeats 2000000 in
theorem rended31_any {w : World} {base b N W : Nat} {Al : Option Addr} {cl : Nat} {L : List (Nat × Nat)} {D : Nat → Nat} {p : St} (h : PlanAt w base b N Al cl L p) (hi : InvS N L D W p) {d : Nat} (hd : d < N) (hN : N ≤ 128) :
    Calls Try.prog 45 #[.pointer (some ⟨b, 0, none⟩), nv d] w fun e w' => e = .returned (.bool (endedB p.sl p.now d)) ∧ ∃ k, w' = w.drewN k := by
  obtain ⟨v, va, h⟩ := h
  obtain ⟨A1, k1, rfl, -, hra, -⟩ := own_slice h.at_
  obtain ⟨A2, k2, rfl, -, hrs, -⟩ := own_slice h.sl
  have c1 : w.cell? ⟨b, 1, none⟩ = some (.slice A2 p.sl.length k2) := h.blk.cell 1
  have c2 : w.cell? ⟨b, 2, none⟩ = some (.slice A1 N k1) := h.blk.cell 2
  have c3 : w.cell? ⟨b, 3, none⟩ = some (.int .u64 (p.now : Int)) := h.blk.cell 3
  have hdi : (d : Int) < (N : Int) := by omega
  obtain ⟨ob, oo, rfl, ca⟩ := hra.at_ (i := d) (u := iv (atOf p.sl d)) (by simp [hd])
  have hlen := hi.len
  clear h
  rcases atOf_cases p.sl d with ⟨e1, h2⟩ | ⟨i, x, e1, hx, rfl⟩
  · have hf : endedB p.sl p.now d = false := by
      rw [← Bool.not_eq_true, ended_iff]
      rintro ⟨x, hx, e, -⟩
      exact h2 x hx e
    rw [e1] at ca
    have ca' : w.cell? ⟨ob, oo + d, none⟩ = some (.int .i64 (-1)) := ca
    rw [hf]
    clear ca h2 hf e1 hra hrs hi
    go_enter Try.func45, Try.ntmps45
    go_wp2
    go_quiet (fail)
    go_wp2
    go_ret
    exact ⟨rfl, _, rfl⟩
  · rw [hi.atEnded hx]
    rw [e1] at ca
    have ca' : w.cell? ⟨ob, oo + x.d, none⟩ = some (.int .i64 (i : Int)) := ca
    obtain ⟨ob2, oo2, e2, hce⟩ := Row.el scell_len (by omega) hrs hx
    have s3 : w.cell? ⟨ob2, oo2 + i * 4 + 3, none⟩ = some (.int .u64 (x.e : Int)) := hce 3 _ rfl
    clear hce
    subst e2
    have hil : (i : Int) < (p.sl.length : Int) := by have := (List.getElem?_eq_some_iff.1 hx).1; omega
    generalize x.d = d at ca' hdi
    generalize x.e = t at s3
    clear ca hra hrs hi e1 hx
    go_enter Try.func45, Try.ntmps45
    go_wp2
    go_quiet (fail)
    go_wp2
    go_ret
    exact ⟨ret_bool (by simp), _, rfl⟩

def rdyTo (L : List (Nat × Nat)) (p : St) (d j : Nat) : Bool := !started p.sl d && (L.take j).all fun q => q.1 != d || endedB p.sl p.now q.2
theorem rdyTo_succ {L : List (Nat × Nat)} {p : St} {d j : Nat} {q : Nat × Nat} (h : L[j]? = some q) : rdyTo L p d (j + 1) = (rdyTo L p d j && (q.1 != d || endedB p.sl p.now q.2)) := by
  unfold rdyTo
  rw [take_succ_some h, List.all_append, List.all_cons, List.all_nil, Bool.and_true, Bool.and_assoc]
theorem rdyTo_full {L : List (Nat × Nat)} {p : St} {d j : Nat} (h : L.length ≤ j) : rdyTo L p d j = rdyB L p d := by
  unfold rdyTo rdyB
  rw [List.take_of_length_le h]
theorem rdyTo_false {L : List (Nat × Nat)} {p : St} {d j : Nat} (h : rdyTo L p d j = false) : rdyB L p d = false := by
  rw [← Bool.not_eq_true] at h ⊢
  intro hr
  apply h
  unfold rdyB at hr
  unfold rdyTo
  rw [Bool.and_eq_true, List.all_eq_true] at hr ⊢
  exact ⟨hr.1, fun q hq => hr.2 q (List.mem_of_mem_take hq)⟩
theorem atOf_lt (sl : List Slt) (d : Nat) : decide (atOf sl d < 0) = !started sl d := by
  rcases atOf_cases sl d with ⟨e, h⟩ | ⟨i, x, e, hx, hd⟩
  · have : started sl d = false := by
      rw [← Bool.not_eq_true, started_iff]
      rintro ⟨x, hx, e⟩
      exact h x hx e
    rw [this, e]
    rfl
  · have : started sl d = true := started_iff.2 ⟨x, List.mem_of_getElem? hx, hd⟩
    rw [this, e]
    simp
def RrRel (w : World) (p : St) (L : List (Nat × Nat)) (N m : Nat) (i : Value) (wr : World) : Prop := ∃ k : Nat, k ≤ N ∧ i = .int .i64 k ∧ (∀ u, u < k → rdyB L p u = false) ∧ Fr [] w wr ∧ m = N - k
def RrRel2 (w : World) (p : St) (L : List (Nat × Nat)) (d m : Nat) (v i : Value) (wr : World) : Prop := ∃ j : Nat, j ≤ L.length ∧ v = .bool (rdyTo L p d j) ∧ i = .int .i64 j ∧ Fr [] w wr ∧ m = L.length - j
set_option maxHeartbeats 4000000 in
theorem rready31_any {w : World} {base b N W : Nat} {Al : Option Addr} {cl : Nat} {L : List (Nat × Nat)} {D : Nat → Nat} {p : St} (h : PlanAt w base b N Al cl L p) (hi : InvS N L D W p) (hN : N ≤ 128) (hL : ∀ q ∈ L, q.1 < N ∧ q.2 < N) (hll : L.length ≤ 1024) :
    Calls Try.prog 34 #[.pointer (some ⟨b, 0, none⟩)] w fun e w' => e = .returned (.int .i64 (optI (rdy N L p))) ∧ Fr [] w w' := by
  have HAT := hide h
  have HI := hide hi
  have HL := hide hL
  clear h hi hL
  go_enter Try.func34, Try.ntmps34
  go_wp2
  go_loopg [3] N (fun m i wr => RrRel w p L N m i wr)
  case atStart => exact ⟨0, by omega, rfl, fun u hu => by omega, Fr.refl _ _, rfl⟩
  case round =>
    obtain ⟨k, hk, rfl, hno, hfr, hmm⟩ := hrel
    have HM := hide hmm
    have HNO := hide hno
    clear hmm hno
    obtain ⟨v, va, hin⟩ := HAT.out.fr0 hfr
    obtain ⟨A1, k1, rfl, -, hra, -⟩ := own_slice hin.at_
    have c2 : wr.cell? ⟨b, 2, none⟩ = some (.slice A1 N k1) := hin.blk.cell 2
    have c0 : wr.cell? ⟨b, 0, none⟩ = some (.slice Al L.length cl) := hin.blk.cell 0
    by_cases hlt : k < N
    · have hkl : (k : Int) < (N : Int) := by omega
      obtain ⟨ob, oo, e, ca⟩ := hra.at_ (i := k) (u := iv (atOf p.sl k)) (by simp [hlt])
      subst e
      have ca' : wr.cell? ⟨ob, oo + k, none⟩ = some (.int .i64 (atOf p.sl k)) := ca
      have hz := atOf_lt p.sl k
      have HZ0 : Hid (Value.bool (!started p.sl k) = .bool (rdyTo L p k 0)) := hide (by simp [rdyTo])
      clear hin hra ca
      generalize atOf p.sl k = a at ca' hz
      go_wp2
      clear hz ca' c2
      go_loopg [4, 5] L.length (fun m v i wq => RrRel2 wr p L k m v i wq)
      case atStart => exact ⟨0, by omega, HZ0.out, rfl, Fr.refl _ _, rfl⟩
      case round =>
        clear c0
        obtain ⟨j, hj, rfl, rfl, hfj, hmm⟩ := hrel
        have HM2 := hide hmm
        clear hmm
        obtain ⟨v, va, hin⟩ := (HAT.out.fr0 hfr).fr0 hfj
        have c0 : wr.cell? ⟨b, 0, none⟩ = some (.slice Al L.length cl) := hin.blk.cell 0
        have HROW := hide hin.row
        have HPL := hide ((HAT.out.fr0 hfr).fr0 hfj)
        clear hin
        cases hok : rdyTo L p k j with
        | false =>
          have HFK := hide (rdyTo_false hok)
          clear hok
          by_cases hlt2 : j < L.length
          · have hjl : (j : Int) < (L.length : Int) := by omega
            go_wp2
            go_roundg (N - (k + 1))
            case measure => rw [HM.out]; omega
            case rel =>
              refine ⟨k + 1, by omega, by go_num, fun u hu => ?_, hfr.call hfj, rfl⟩
              by_cases e : u = k
              · rw [e]; exact HFK.out
              · exact HNO.out u (by omega)
          · have hjl : ¬ (j : Int) < (L.length : Int) := by omega
            go_wp2
            go_roundg (N - (k + 1))
            case measure => rw [HM.out]; omega
            case rel =>
              refine ⟨k + 1, by omega, by go_num, fun u hu => ?_, hfr.call hfj, rfl⟩
              by_cases e : u = k
              · rw [e]; exact HFK.out
              · exact HNO.out u (by omega)
        | true =>
          by_cases hlt2 : j < L.length
          · obtain ⟨q, hq⟩ : ∃ q, L[j]? = some q := ⟨_, List.getElem?_eq_getElem hlt2⟩
            obtain ⟨ob2, oo2, e, q0, q1⟩ := HROW.out.link (show (ofNs L)[j]? = some (ofN q) by simp [ofNs, hq])
            subst e
            have hjl : (j : Int) < (L.length : Int) := by omega
            have HS := hide (rdyTo_succ (p := p) (d := k) hq)
            rw [hok, Bool.true_and] at HS
            have hqN := (HL.out q (List.mem_of_getElem? hq)).2
            obtain ⟨qc, qs⟩ := q
            simp only [ofN] at q0 q1 hqN HS
            clear hok hq
            by_cases e : qc = k
            · subst e
              have eb : ((qc : Int) != (qc : Int)) = false := by simp
              have hs2 : (qc != qc) = false := by simp
              rw [hs2, Bool.false_or] at HS
              clear hs2
              go_wp2_with fail
              refine (rended31_any HPL.out HI.out hqN hN).mono ?_
              rintro e w3 ⟨rfl, k3, rfl⟩
              go_wp2
              go_roundg (L.length - (j + 1))
              case measure => rw [HM2.out]; omega
              case rel => exact ⟨j + 1, by omega, by rw [HS.out], by go_num, hfj.drewN _, rfl⟩
            · have eb : ((qc : Int) != (k : Int)) = true := by simp; omega
              have hs2 : (qc != k) = true := by simp [e]
              rw [hs2, Bool.true_or] at HS
              clear hs2 e
              go_wp2
              go_roundg (L.length - (j + 1))
              case measure => rw [HM2.out]; omega
              case rel => exact ⟨j + 1, by omega, by rw [HS.out], by go_num, hfj, rfl⟩
          · have hjl : ¬ (j : Int) < (L.length : Int) := by omega
            rw [rdyTo_full (by omega)] at hok
            have HOK := hide hok
            clear hok
            go_wp2
            go_ret
            refine ⟨ret_int ?_, hfr.call hfj⟩
            rw [rdy_some.2 ⟨hlt, HOK.out, HNO.out⟩]
            rfl
    · have hkl : ¬ (k : Int) < (N : Int) := by omega
      clear hin hra
      go_wp2
      go_ret
      refine ⟨ret_int ?_, hfr⟩
      rw [rdy_none.2 (fun u hu => HNO.out u (by omega))]
      rfl
def freTo (p : St) (w j : Nat) : Bool := (p.sl.take j).all fun x => x.w != w || decide (x.e ≤ p.now)
theorem freTo_succ {p : St} {w j : Nat} {x : Slt} (h : p.sl[j]? = some x) : freTo p w (j + 1) = (freTo p w j && (x.w != w || decide (x.e ≤ p.now))) := by
  unfold freTo
  rw [take_succ_some h, List.all_append, List.all_cons, List.all_nil, Bool.and_true]
def RfRel2 (w : World) (p : St) (wk m : Nat) (v i : Value) (wr : World) : Prop := ∃ j : Nat, j ≤ p.sl.length ∧ v = .bool (freTo p wk j) ∧ i = .int .i64 j ∧ Fr [] w wr ∧ m = p.sl.length - j
set_option maxHeartbeats 4000000 in
theorem rfree31_any {w : World} {base b N W : Nat} {Al : Option Addr} {cl : Nat} {L : List (Nat × Nat)} {D : Nat → Nat} {p : St} (h : PlanAt w base b N Al cl L p) (hi : InvS N L D W p) (hN : N ≤ 128) (hW : W ≤ 16) :
    Calls Try.prog 35 #[.pointer (some ⟨b, 0, none⟩), .int .i64 (W : Int)] w fun e w' => e = .returned (.int .i64 (optI (fre W p))) ∧ Fr [] w w' := by
  have HAT := hide h
  have hlen := hi.len
  clear h hi
  go_enter Try.func35, Try.ntmps35
  go_wp2
  go_loopg [5] W (fun m i wr => FreRel w p W m i wr)
  case atStart => exact ⟨0, by omega, rfl, fun u hu => by omega, Fr.refl _ _, rfl⟩
  case round =>
    obtain ⟨k, hk, rfl, hno, hfr, hmm⟩ := hrel
    have HM := hide hmm
    have HNO := hide hno
    clear hmm hno
    by_cases hlt : k < W
    · have hkl : (k : Int) < (W : Int) := by omega
      go_wp2
      go_loopg [6, 7] p.sl.length (fun m v i wq => RfRel2 wr p k m v i wq)
      case atStart => exact ⟨0, by omega, rfl, rfl, Fr.refl _ _, rfl⟩
      case round =>
        obtain ⟨j, hj, rfl, rfl, hfj, hmm⟩ := hrel
        have HM2 := hide hmm
        clear hmm
        obtain ⟨v, va, hin⟩ := (HAT.out.fr0 hfr).fr0 hfj
        obtain ⟨A2, k2, rfl, -, hrs, -⟩ := own_slice hin.sl
        have c1 : wr.cell? ⟨b, 1, none⟩ = some (.slice A2 p.sl.length k2) := hin.blk.cell 1
        have c3 : wr.cell? ⟨b, 3, none⟩ = some (.int .u64 (p.now : Int)) := hin.blk.cell 3
        clear hin
        by_cases hlt2 : j < p.sl.length
        · obtain ⟨x, hx⟩ : ∃ x, p.sl[j]? = some x := ⟨_, List.getElem?_eq_getElem hlt2⟩
          obtain ⟨ob, oo, e, hce⟩ := Row.el scell_len (by omega) hrs hx
          subst e
          have s1 : wr.cell? ⟨ob, oo + j * 4 + 1, none⟩ = some (.int .i64 (x.w : Int)) := hce 1 _ rfl
          have s3 : wr.cell? ⟨ob, oo + j * 4 + 3, none⟩ = some (.int .u64 (x.e : Int)) := hce 3 _ rfl
          have hjl : (j : Int) < (p.sl.length : Int) := by omega
          have HS := hide (freTo_succ (w := k) hx)
          clear hx hce hrs
          generalize x.w = xw at s1 HS
          generalize x.e = xe at s3 HS
          generalize freTo p k j = ok at HS ⊢
          cases ok with
          | false =>
            rw [Bool.false_and] at HS
            go_wp2
            go_quiet (fail)
            go_wp2
            go_roundg (p.sl.length - (j + 1))
            case measure => rw [HM2.out]; omega
            case rel => exact ⟨j + 1, by omega, by rw [HS.out], by go_num, hfj.drewN _, rfl⟩
          | true =>
            rw [Bool.true_and] at HS
            by_cases e : xw = k
            · subst e
              have eb : ((xw : Int) != (xw : Int)) = false := by simp
              have hs2 : (xw != xw) = false := by simp
              rw [hs2, Bool.false_or] at HS
              clear hs2
              go_wp2
              go_quiet (fail)
              go_wp2
              go_roundg (p.sl.length - (j + 1))
              case measure => rw [HM2.out]; omega
              case rel => exact ⟨j + 1, by omega, by first | (rw [HS.out]; done) | (rw [HS.out]; simp), by go_num, hfj.drewN _, rfl⟩
            · have eb : ((xw : Int) != (k : Int)) = true := by simp; omega
              have hs2 : (xw != k) = true := by simp [e]
              rw [hs2, Bool.true_or] at HS
              clear hs2 e
              go_wp2
              go_quiet (fail)
              go_wp2
              go_roundg (p.sl.length - (j + 1))
              case measure => rw [HM2.out]; omega
              case rel => exact ⟨j + 1, by omega, by rw [HS.out], by go_num, hfj.drewN _, rfl⟩
        · have hjl : ¬ (j : Int) < (p.sl.length : Int) := by omega
          have hfu : freTo p k j = freB p k := by
            unfold freTo freB
            rw [List.take_of_length_le (by omega)]
          rw [hfu]
          clear hfu hrs
          cases hok : freB p k with
          | false =>
            have HFK := hide hok
            clear hok
            go_wp2
            go_roundg (W - (k + 1))
            case measure => rw [HM.out]; omega
            case rel =>
              refine ⟨k + 1, by omega, by go_num, fun u hu => ?_, hfr.call hfj, rfl⟩
              by_cases e : u = k
              · rw [e]; exact HFK.out
              · exact HNO.out u (by omega)
          | true =>
            have HFK := hide hok
            clear hok
            go_wp2
            go_ret
            refine ⟨ret_int ?_, hfr.call hfj⟩
            rw [fre_some.2 ⟨hlt, HFK.out, HNO.out⟩]
            rfl
    · have hkl : ¬ (k : Int) < (W : Int) := by omega
      go_wp2
      go_ret
      refine ⟨ret_int ?_, hfr⟩
      rw [fre_none.2 (fun u hu => HNO.out u (by omega))]
      rfl
end Go.Proofs.Ytinengemeppefaa

