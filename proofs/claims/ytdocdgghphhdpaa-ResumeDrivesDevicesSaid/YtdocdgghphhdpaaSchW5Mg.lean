/- Walks: resume.check, resume.Schedule. -/
import Derived.Test.YtdocdgghphhdpaaMgResumeDrives20
import Derived.Test.YtdocdgghphhdpaaSchW3Mg
import Derived.Test.YtdocdgghphhdpaaMgResumeDrives21
import Derived.Test.YtdocdgghphhdpaaMgResumeDrives11
namespace Go.Proofs.Ytdocdgghphhdpaa
open Go.RowKit

def maxD : Nat := 9007199254740992
def ChkOk (n : Int) (dur : List Nat) (W : Int) : Prop := (dur.length : Int) = n ∧ 1 ≤ W ∧ W ≤ 16 ∧ ∀ d ∈ dur, d ≤ maxD
instance (n : Int) (dur : List Nat) (W : Int) : Decidable (ChkOk n dur W) := by unfold ChkOk; infer_instance
def chkM (n : Int) (l : List (Int × Int)) (dur : List Nat) (W : Int) : Int := if checkM n l = 0 then (if ChkOk n dur W then 0 else 1) else checkM n l
theorem chkM_bad {n : Int} {l : List (Int × Int)} {dur : List Nat} {W : Int} (h : ¬ checkM n l = 0) : chkM n l dur W = checkM n l := by simp [chkM, h]
theorem chkM_no {n : Int} {l : List (Int × Int)} {dur : List Nat} {W : Int} (h : checkM n l = 0) (k : ¬ ChkOk n dur W) : chkM n l dur W = 1 := by simp [chkM, h, k]
theorem chkM_ok {n : Int} {l : List (Int × Int)} {dur : List Nat} {W : Int} (h : checkM n l = 0) (k : ChkOk n dur W) : chkM n l dur W = 0 := by simp [chkM, h, k]
theorem chkM_zero {n : Int} {l : List (Int × Int)} {dur : List Nat} {W : Int} (h : chkM n l dur W = 0) : checkM n l = 0 ∧ ChkOk n dur W := by
  by_cases h1 : checkM n l = 0
  · by_cases h2 : ChkOk n dur W
    · exact ⟨h1, h2⟩
    · rw [chkM_no h1 h2] at h; cases h
  · rw [chkM_bad h1] at h; exact absurd h h1
theorem Row.uint {w : World} {A : Option Addr} {l : List Nat} (hr : Row w A (l.map uv)) {i : Nat} {x : Nat} (h : l[i]? = some x) :
    ∃ ob oo, A = some ⟨ob, oo, none⟩ ∧ w.cell? ⟨ob, oo + i, none⟩ = some (.int .u64 (x : Int)) := hr.at_ (by rw [List.getElem?_map, h]; rfl)
def DurRel (w1 : World) (dur : List Nat) (m : Nat) (i : Value) (wr : World) : Prop := ∃ k : Nat, k ≤ dur.length ∧ i = .int .i64 k ∧ (∀ x ∈ dur.take k, x ≤ maxD) ∧ w1 = wr ∧ m = dur.length - k
set_option maxHeartbeats 2000000 in
theorem check31_any (n W : Int) (A B : Option Addr) (cp cq : Nat) (l : List (Int × Int)) (dur : List Nat) (w : World) (hr : Row w A (pcs l)) (hb : Row w B (dur.map uv)) (hm : l.length ≤ 4096) :
    Calls Try.prog 90 #[.int .i64 n, .slice A l.length cp, .slice B dur.length cq, .int .i64 W] w fun e w' => e = .returned (.int .i64 (chkM n l dur W)) ∧ Fr [] w w' := by
  have HB := hide hb
  have HR := hide hr
  clear hr hb
  go_enter Try.func90, Try.ntmps90
  go_wp2_with fail
  refine (check_any24 n A cp l w HR.out hm).mono ?_
  rintro e w1 ⟨rfl, hf1⟩
  by_cases hc : checkM n l = 0
  · rw [hc]
    have HC := hide hc
    have hn : n ≤ 128 := by
      obtain ⟨N, e, h1, -⟩ := orderM_zero hc
      omega
    clear hc
    by_cases h3 : (dur.length : Int) = n ∧ 1 ≤ W ∧ W ≤ 16
    · obtain ⟨h1, h2, h3⟩ := h3
      have hne : ((dur.length : Int) != n) = false := by simp [h1]
      have HL := hide h1
      have hdl : dur.length ≤ 128 := by omega
      clear h1
      go_wp2
      go_loopg [32] dur.length (fun m i wr => DurRel w1 dur m i wr)
      case atStart => exact ⟨0, by omega, rfl, by simp, rfl, rfl⟩
      case round =>
        obtain ⟨k, hk, rfl, hall, rfl, hmm⟩ := hrel
        have HM := hide hmm
        have HALL := hide hall
        clear hmm hall
        by_cases hlt : k < dur.length
        · obtain ⟨x, hx⟩ : ∃ x, dur[k]? = some x := ⟨_, List.getElem?_eq_getElem hlt⟩
          obtain ⟨ob, oo, rfl, c1⟩ := (HB.out.fr0 hf1).uint hx
          have hkl : (k : Int) < (dur.length : Int) := by omega
          have HX := hide hx
          clear hx
          by_cases hgt : maxD < x
          · have hgt' : (9007199254740992 : Int) < (x : Int) := by unfold maxD at hgt; omega
            have hno : chkM n l dur W = 1 := chkM_no HC.out (fun h => by have := h.2.2.2 x (List.mem_of_getElem? HX.out); omega)
            have HNO := hide hno
            clear hno hgt
            go_wp2
            go_ret
            exact ⟨ret_int HNO.out.symm, hf1⟩
          · have hgt' : ¬ (9007199254740992 : Int) < (x : Int) := by unfold maxD at hgt; omega
            go_wp2
            go_roundg (dur.length - (k + 1))
            case measure => rw [HM.out]; omega
            case rel =>
              refine ⟨k + 1, by omega, by go_num, fun y hy => ?_, rfl, rfl⟩
              rw [take_succ_some HX.out] at hy
              rcases List.mem_append.1 hy with h | h
              · exact HALL.out y h
              · rw [List.mem_singleton.1 h]; omega
        · have hkl : ¬ (k : Int) < (dur.length : Int) := by omega
          have hall := HALL.out
          rw [List.take_of_length_le (by omega)] at hall
          have hok : chkM n l dur W = 0 := chkM_ok HC.out ⟨HL.out, h2, h3, hall⟩
          have HOK := hide hok
          clear hok hall
          go_wp2
          go_ret
          exact ⟨ret_int HOK.out.symm, hf1⟩
    · have hno : chkM n l dur W = 1 := chkM_no HC.out (fun h => h3 ⟨h.1, h.2.1, h.2.2.1⟩)
      have HNO := hide hno
      have hway : ¬ (dur.length : Int) = n ∨ ((dur.length : Int) = n ∧ W < 1) ∨ ((dur.length : Int) = n ∧ 1 ≤ W ∧ 16 < W) := by omega
      clear hno h3
      rcases hway with h | ⟨h, h2⟩ | ⟨h, h2, h3⟩
      · have hne : ((dur.length : Int) != n) = true := by simp [h]
        clear h
        go_wp2
        go_ret
        exact ⟨ret_int HNO.out.symm, hf1⟩
      · have hne : ((dur.length : Int) != n) = false := by simp [h]
        clear h
        go_wp2
        go_ret
        exact ⟨ret_int HNO.out.symm, hf1⟩
      · have hne : ((dur.length : Int) != n) = false := by simp [h]
        clear h
        go_wp2
        go_ret
        exact ⟨ret_int HNO.out.symm, hf1⟩
  · have hne : (checkM n l != 0) = true := by simp [hc]
    have HM1 := hide (chkM_bad (dur := dur) (W := W) hc)
    clear hc
    go_wp2
    go_ret
    exact ⟨ret_int HM1.out.symm, hf1⟩

def durF (dur : List Nat) : Nat → Nat := fun d => dur.getD d 0
def schedM (n : Int) (l : List (Int × Int)) (dur : List Nat) (W : Int) : List Slt × Int := if chkM n l dur W = 0 then (sched n.toNat (toNs l) (durF dur) W.toNat, 0) else ([], chkM n l dur W)
theorem schedM_bad {n : Int} {l : List (Int × Int)} {dur : List Nat} {W : Int} (h : ¬ chkM n l dur W = 0) : schedM n l dur W = ([], chkM n l dur W) := by simp [schedM, h]
theorem schedM_ok {n : Int} {l : List (Int × Int)} {dur : List Nat} {W : Int} (h : chkM n l dur W = 0) : schedM n l dur W = (sched n.toNat (toNs l) (durF dur) W.toNat, 0) := by simp [schedM, h]
def SchedRet (w : World) (r : List Slt × Int) (e : Ending) (w' : World) : Prop :=
  ∃ v, e = .returned (.tuple #[v, .int .i64 r.2]) ∧ w'.ownsRow w.heap.size 109 4 v r.1.length (scells r.1) ∧ Fr [] w w'
/-- What a good input is. -/
structure Good (N W : Nat) (l : List (Int × Int)) (dur : List Nat) : Prop where
  links : LinksOk (N : Int) l
  lt : ∀ q ∈ toNs l, q.1 < N ∧ q.2 < N
  nodes : N ≤ 128
  wk : 1 ≤ W ∧ W ≤ 16
  len : dur.length = N
  dur : ∀ d ∈ dur, d ≤ maxD
  basic : basicM (N : Int) l = 0
  full : (greedy N (toNs l)).length = N
theorem chkM_good {n W : Int} {l : List (Int × Int)} {dur : List Nat} (h : chkM n l dur W = 0) : ∃ N V : Nat, n = (N : Int) ∧ W = (V : Int) ∧ Good N V l dur := by
  obtain ⟨h1, h2, h3, h4, h5⟩ := chkM_zero h
  obtain ⟨N, rfl, hN, hok, hnd, hb, hf, -⟩ := orderM_zero h1
  obtain ⟨V, rfl⟩ := Int.eq_ofNat_of_zero_le (show 0 ≤ W by omega)
  exact ⟨N, V, rfl, rfl, hok, toNs_lt hok.2.2.2, hN, by omega, by omega, h5, hb, hf⟩
theorem Good.durF_le {N W : Nat} {l : List (Int × Int)} {dur : List Nat} (h : Good N W l dur) (d : Nat) : durF dur d ≤ maxD := by
  unfold durF
  rw [List.getD_eq_getElem?_getD]
  cases hd : dur[d]? with
  | none => simp
  | some x => simpa using h.dur x (List.mem_of_getElem? hd)
theorem Good.now_le {N W : Nat} {l : List (Int × Int)} {dur : List Nat} (h : Good N W l dur) {L : List (Nat × Nat)} {p : St} (hi : InvS N L (durF dur) W p) : p.now ≤ 128 * 9007199254740992 ∧ ∀ x ∈ p.sl, x.e ≤ 128 * 9007199254740992 := by
  have h1 := tot_le (B := 9007199254740992) (fun d _ => h.durF_le d) hi
  have h2 : N * 9007199254740992 ≤ 128 * 9007199254740992 := Nat.mul_le_mul_right _ h.nodes
  have hb := hi.bound
  exact ⟨by omega, fun x hx => by have := hb.2 x hx; omega⟩
def SchRel (w : World) (base b N W : Nat) (L : List (Nat × Nat)) (D : Nat → Nat) (m : Nat) (wr : World) : Prop :=
  ∃ p, RchS N L D W p ∧ SchAt wr base b N W L p ∧ FrB base w wr ∧ m = measS N p
theorem optI_some {n : Nat} : optI (some n) = (n : Int) := rfl
theorem optI_none : optI none = -1 := rfl

set_option maxHeartbeats 4000000 in
theorem schedule31_any (n W : Int) (A B : Option Addr) (cp cq : Nat) (l : List (Int × Int)) (dur : List Nat) (w : World) (hr : Row w A (pcs l)) (hb : Row w B (dur.map uv)) (hm : l.length ≤ 4096) :
    Calls Try.prog 51 #[.int .i64 n, .slice A l.length cp, .slice B dur.length cq, .int .i64 W] w (SchedRet w (schedM n l dur W)) := by
  have HB := hide hb
  have HR := hide hr
  clear hr hb
  go_enter Try.func51, Try.ntmps51
  go_wp2_with fail
  refine (check31_any n W A B cp cq l dur w HR.out HB.out hm).mono ?_
  rintro e w1 ⟨rfl, hf1⟩
  by_cases hc : chkM n l dur W = 0
  · obtain ⟨N, V, rfl, rfl, hgood⟩ := chkM_good hc
    have hres := schedM_ok hc
    rw [Int.toNat_natCast, Int.toNat_natCast] at hres
    rw [hc]
    have HRES := hide hres
    have HG := hide hgood
    have hN := hgood.nodes
    have hW := hgood.wk
    have hdl := hgood.len
    have hll : (toNs l).length ≤ 1024 := by have := hgood.links.2.2.1; simpa [toNs] using this
    have HLT := hide hgood.lt
    clear hc hgood hres
    go_wp2_with fail
    refine (newScheduler_any N V A cp l w1 (HR.out.fr0 hf1) HG.out.links hW.2).mono ?_
    rintro e w2 ⟨b, rfl, hat, hf2⟩
    generalize toNs l = L at hat HLT hll HRES
    have HAT := hide hat
    have HBB := hide (HB.out.fr0 hf1)
    have hlow : ∀ ad, B = some ad → 0 < dur.length → ad.block < w1.heap.size := fun ad e h0 => by
      obtain ⟨ob, oo, e2, h1⟩ := HBB.out.lt (by simpa using h0)
      rw [e] at e2
      injection e2 with e2
      rw [e2]; exact h1
    have HLOW := hide hlow
    clear hat hlow
    go_wp2
    go_loopg [] (2 * N) (fun m wr => SchRel w2 w1.heap.size b N V L (durF dur) m wr)
    case atStart => exact ⟨⟨[], 0⟩, .init, HAT.out, .refl _ _, by simp [measS]⟩
    case round =>
      obtain ⟨p, hrch, hat, hfb, hmm⟩ := hrel
      have HM := hide hmm
      have HRC := hide hrch
      have HINV := hide hrch.inv
      have HA := hide hat
      clear hmm hrch hat HAT
      go_wp2_with fail
      refine (ready31_any HA.out HINV.out hN HLT.out hll).mono ?_
      rintro e w3 ⟨rfl, hf3⟩
      go_wp2_with fail
      refine (free31_any (HA.out.fr0 hf3) HINV.out hW.2).mono ?_
      rintro e w4 ⟨rfl, hf4⟩
      have hfb4 : FrB w1.heap.size w2 w4 := hfb.trans (.of_fr (hf3.trans hf4))
      have HA4 := hide ((HA.out.fr0 hf3).fr0 hf4)
      clear hfb hf3 hf4 HA
      by_cases hbeg : (∃ d, rdy N L p = some d) ∧ ∃ k, fre V p = some k
      · obtain ⟨⟨d, h1⟩, k, h2⟩ := hbeg
        have HST := hide (step_begin (D := durF dur) h1 h2)
        have hdN := (rdy_some.1 h1).1
        have hkV := (fre_some.1 h2).1
        have hml := begin_len HINV.out h1 h2
        rw [h1, h2, optI_some, optI_some]
        clear h1 h2
        have hdl2 : d < dur.length := by omega
        obtain ⟨x, hx⟩ : ∃ x, dur[d]? = some x := ⟨_, List.getElem?_eq_getElem hdl2⟩
        have hxD : durF dur d = x := by simp [durF, List.getD_eq_getElem?_getD, hx]
        obtain ⟨ob, oo, e1, c1⟩ := (hfb4.row (HBB.out.fr0 hf2) (fun ad e => HLOW.out ad e (by omega))).uint hx
        subst e1
        rw [← hxD] at c1
        have k1 : (d : Int) < (dur.length : Int) := by omega
        have HNL := hide (HG.out.now_le HINV.out).1
        have hDl := HG.out.durF_le d
        unfold maxD at hDl
        clear hx hxD
        go_wp2_with fail
        refine (start31_any (D := durF dur) HA4.out d k hdN hkV (by omega) (by have := HNL.out; omega) (Nat.le_trans hf2.size hfb4.size)).mono ?_
        rintro e w5 ⟨rfl, hat5, hfb5⟩
        go_wp2
        go_roundg (measS N (beginS (durF dur) p d k))
        case measure => rw [HM.out]; exact meas_begin hml
        case rel => exact ⟨_, .step HRC.out HST.out, hat5, hfb4.trans hfb5, rfl⟩
      · have hno : rdy N L p = none ∨ fre V p = none := by
          cases h1 : rdy N L p with
          | none => exact .inl rfl
          | some d =>
            cases h2 : fre V p with
            | none => exact .inr rfl
            | some k => exact absurd ⟨⟨d, h1⟩, k, h2⟩ hbeg
        have HNO := hide hno
        have hway : (∃ d : Nat, optI (rdy N L p) = (d : Int) ∧ optI (fre V p) = -1) ∨ optI (rdy N L p) = -1 := by
          rcases hno with h | h
          · exact .inr (by rw [h]; rfl)
          · cases h1 : rdy N L p with
            | none => exact .inr rfl
            | some d => exact .inl ⟨d, rfl, by rw [h]; rfl⟩
        generalize optI (rdy N L p) = i1 at hway ⊢
        generalize optI (fre V p) = i2 at hway ⊢
        clear hno hbeg
        have hadv := advance31_any HA4.out HINV.out hN
        rcases hway with ⟨d, rfl, rfl⟩ | rfl
        all_goals
          go_wp2_with fail
          refine hadv.mono ?_
          clear hadv
          intro e w5 hret
          unfold AdvRet at hret
          cases hnx : nxt p with
          | some t =>
            rw [hnx] at hret
            obtain ⟨rfl, hat5, hfb5⟩ := hret
            have HST := hide (step_next (D := durF dur) HNO.out hnx)
            have HMS := hide (meas_next (N := N) hnx)
            clear hnx
            go_wp2
            go_roundg (measS N ⟨p.sl, t⟩)
            case measure => rw [HM.out]; exact HMS.out
            case rel => exact ⟨_, .step HRC.out HST.out, hat5, hfb4.trans hfb5, rfl⟩
          | none =>
            rw [hnx] at hret
            obtain ⟨rfl, rfl⟩ := hret
            have HST := hide (rch_fin HRC.out (step_stop (D := durF dur) HNO.out hnx))
            clear hnx
            obtain ⟨g0, g1, g2, g3, v, hin⟩ := HA4.out
            have c5 : w4.cell? ⟨b, 5, none⟩ = some v := hin.blk.cell 5
            have hsl := hin.sl
            obtain ⟨A5, cc, rfl, -, -, -⟩ := own_slice hsl
            have HSL := hide hsl
            clear hin hsl
            go_wp2
            go_ret2
            refine ⟨.slice A5 p.sl.length cc, by rw [HRES.out]; unfold sched; rw [← HST.out]; rfl, ?_, hf1.call (FrB.step hf2 hfb4 (Nat.le_refl _))⟩
            rw [HRES.out]
            unfold sched
            rw [← HST.out]
            exact own_base HSL.out hf1.size
  · have hne : (chkM n l dur W != 0) = true := by simp [hc]
    have HM1 := hide (schedM_bad hc)
    clear hc
    go_wp2
    go_ret2
    exact ⟨.slice none 0 0, by rw [HM1.out]; rfl, by rw [HM1.out]; exact own_nil _ _ _ _, hf1⟩
end Go.Proofs.Ytdocdgghphhdpaa

