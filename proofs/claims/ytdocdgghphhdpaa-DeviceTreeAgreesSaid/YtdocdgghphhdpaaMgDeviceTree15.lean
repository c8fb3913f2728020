/- Plain: what Some makes of devices and rails is valid, and the tree of them. -/
import Derived.Test.YtdocdgghphhdpaaTrW2Mg
import Derived.Test.YtdocdgghphhdpaaTrW3Mg
import Derived.Test.YtdocdgghphhdpaaMgDeviceTree13
import Derived.Test.YtdocdgghphhdpaaRlW5Mg
import Derived.Test.YtdocdgghphhdpaaDevW12Mg
import Derived.Test.YtdocdgghphhdpaaMgDeviceTree0
import Derived.Test.YtdocdgghphhdpaaProg
import Derived.Lib.Hide
import Derived.Deep.LoopGhost
import Derived.Deep.QuietTactic
import Derived.BigQuiet
namespace Go.Proofs.Ytdocdgghphhdpaa
open Go.RowKit

/-- What some27 gives, without memory. -/
structure SomeOk (out : List DV) (n : Nat) : Prop where
  len : out.length ≤ 6
  el : ∀ i x, out[i]? = some x → ∃ (r : DV) (rf : Nat → Value), x = (⟨someP r i rf, someRl r n⟩ : DV)
theorem someOk_of {raw out : List DV} {n : Nat} (h : SomeTo raw out n (min raw.length 6)) : SomeOk out n := by
  refine ⟨by rw [h.1]; omega, fun i x hx => ?_⟩
  have hi : i < min raw.length 6 := by rw [← h.1]; exact (List.getElem?_eq_some_iff.1 hx).1
  obtain ⟨rf, e⟩ := h.2 i _ hi (List.getElem?_eq_getElem (by omega))
  rw [hx] at e
  injection e with e
  exact ⟨_, rf, e⟩
theorem someRl_ok (r : DV) (n k : Nat) : ascB (someRl r n k) = true ∧ (∀ v ∈ someRl r n k, 0 ≤ v ∧ v < (n : Int)) ∧ (someRl r n k).length ≤ 3 := by
  unfold someRl
  split
  · exact ⟨ascB_asc (ascL_asc _ _), fun v hv => ascL_mem hv, ascL_len _ _⟩
  · exact ⟨by decide, (fun v hv => by cases hv), by simp⟩
theorem dfM_step (f : Nat → Int) (k : Nat) : dfM f k ≤ dfM f (k + 1) ∧ (dfM f k ≤ 4 → dfM f (k + 1) ≤ 4) := by
  have := umod_lt (f (k + 1)) (show 0 < 5 by omega)
  rw [dfM]
  omega
theorem someP_ok (r : DV) (i n : Nat) (rf : Nat → Value) : devOk ⟨someP r i rf, someRl r n⟩ i (n : Int) = true := by
  have h1 := umod_lt r.d.par (show 0 < i + 1 by omega)
  have h2 := umod_lt r.d.wd (show 0 < 4 by omega)
  have h3 := umod_lt r.d.ws (show 0 < 5 by omega)
  have hr : railsB (someRl r n) (n : Int) = true := railsB_yes (fun k _ => ⟨(someRl_ok r n k).1, (someRl_ok r n k).2.1⟩)
  have d0 : dfM r.d.df 0 = 0 := rfl
  have d1 := dfM_step r.d.df 0
  have d2 := dfM_step r.d.df 1
  have d3 := dfM_step r.d.df 2
  have d4 := dfM_step r.d.df 3
  have d5 := dfM_step r.d.df 4
  simp only [Nat.zero_add, Nat.reduceAdd] at d1 d2 d3 d4 d5
  have hd : deepB (someP r i rf) = true := by
    unfold deepB
    refine decide_eq_true ⟨rfl, ?_, ?_⟩
    · unfold srtB PD.deepL
      refine decide_eq_true (fun j hj => ?_)
      simp only [someP, List.length_cons, List.length_nil] at hj ⊢
      have : j = 0 ∨ j = 1 ∨ j = 2 ∨ j = 3 ∨ j = 4 := by omega
      rcases this with rfl | rfl | rfl | rfl | rfl <;> simp [List.getD] <;> omega
    · show dfM r.d.df 5 ≤ 4
      omega
  unfold devOk
  rw [hr, hd, Bool.and_true, Bool.and_true]
  refine (Bool.and_eq_true _ _).mpr ⟨decide_eq_true ?_, decide_eq_true ?_⟩
  · simp only [someP]
    omega
  · simp only [someP]
    omega
theorem some_check {out : List DV} {n : Nat} (h : SomeOk out n) (hn : n ≤ 64) : dcheckM out (n : Int) = 0 := by
  have hl := h.len
  have hb : devsB out (n : Int) = true := devsB_yes (k := out.length) (fun i x _ hx => by
    obtain ⟨r, rf, rfl⟩ := h.el i x hx
    exact someP_ok r i n rf) (Nat.le_refl _)
  unfold dcheckM
  rw [if_neg (by omega), if_pos hb]
/-- The tree's constants. -/
noncomputable def mkTC (out : List DV) (n : Nat) (R : Nat → RailD) (ch : Nat → List Nat) : TC :=
  ⟨out.length, fun i => (out[i]?.map fun x => x.d.par).getD 0, fun i => (out[i]?.map fun x => x.rl).getD fun _ => [], n, R, ch⟩
theorem mkTC_tie (out : List DV) (n : Nat) (R : Nat → RailD) (ch : Nat → List Nat) : ∀ i x, out[i]? = some x → x.d.par = (mkTC out n R ch).par i ∧ x.rl = (mkTC out n R ch).rl i := fun i x hx => by
  simp [mkTC, hx]
theorem good_ch {m : Nat} {R : Nat → RailD} {rk : Nat → Nat} (h : Good25 m R rk) : ∃ ch : Nat → List Nat, ∀ k, k < m → Chn m R k (ch k) ∧ (ch k).length ≤ 64 := by
  have h1 : ∀ k, ∃ L, k < m → Chn m R k L ∧ L.length ≤ 64 := fun k => by
    by_cases hk : k < m
    · obtain ⟨L, a, -, b⟩ := chn_of_rank h.rank (rk k) k (Nat.le_refl _) hk
      have := h.rk8 k
      exact ⟨L, fun _ => ⟨a, by omega⟩⟩
    · exact ⟨[], fun h => absurd h hk⟩
  exact ⟨fun k => (h1 k).choose, fun k hk => (h1 k).choose_spec hk⟩
theorem mkTC_ok {out : List DV} {n : Nat} {R : Nat → RailD} {ch : Nat → List Nat} (h : SomeOk out n) (hn : n ≤ 8) (hch : ∀ k, k < n → Chn n R k (ch k) ∧ (ch k).length ≤ 64) : TOk (mkTC out n R ch) := by
  have hrl : ∀ i q, (mkTC out n R ch).rl i q = [] ∨ ∃ r, (mkTC out n R ch).rl i q = someRl r n q := fun i q => by
    cases hx : out[i]? with
    | none => left; simp [mkTC, hx]
    | some x =>
      obtain ⟨r, rf, rfl⟩ := h.el i x hx
      right
      exact ⟨r, by simp [mkTC, hx]⟩
  have hneed : ∀ i q, needL ((mkTC out n R ch).rl i) q = [] ∨ ∃ r, needL ((mkTC out n R ch).rl i) q = someRl r n q := fun i q => by
    unfold needL
    split
    · exact .inl rfl
    · exact hrl i q
  refine ⟨Nat.le_trans h.len (by omega), Nat.le_trans hn (by omega), fun i hi => ?_, fun i q => ?_, fun i q => ?_, fun i q hi v hv => ?_, hch⟩
  · have hi' : i < out.length := hi
    obtain ⟨r, rf, e⟩ := h.el i _ (List.getElem?_eq_getElem hi')
    have h1 := umod_lt r.d.par (show 0 < i + 1 by omega)
    have h2 : (mkTC out n R ch).par i = (umod r.d.par (i + 1) : Int) - 1 := by
      have : out[i]? = some _ := List.getElem?_eq_getElem hi'
      simp [mkTC, this, e, someP]
    rw [h2]
    omega
  · rcases hneed i q with e | ⟨r, e⟩ <;> rw [e]
    · decide
    · exact (someRl_ok r n q).1
  · rcases hrl i q with e | ⟨r, e⟩ <;> rw [e]
    · simp
    · have := (someRl_ok r n q).2.2
      omega
  · rcases hneed i q with e | ⟨r, e⟩ <;> rw [e] at hv
    · cases hv
    · exact (someRl_ok r n q).2.1 v hv
theorem heldN_rsz (R : Nat → RailD) (j : Nat) : ∀ i, heldN R rsz j i = 0
  | 0 => rfl
  | i + 1 => by
    rw [heldN, heldN_rsz R j i]
    simp [rsz]
theorem useN_four (C : TC) (j : Nat) : ∀ i, useN C (fun _ => 4) j i = 0
  | 0 => rfl
  | i + 1 => by
    rw [useN, useN_four C j i]
    simp [needL]
theorem tsz_inv (C : TC) : TInv C tsz :=
  ⟨fun j _ => by show 0 = heldN C.R rsz j C.n + useN C (fun _ => 4) j C.nd; rw [heldN_rsz, useN_four], Nat.le_refl _, fun _ => Nat.le_refl _, fun _ _ _ _ => Nat.le_refl _⟩
theorem good_new {out : List DV} {n : Nat} {R : Nat → RailD} {rk : Nat → Nat} (h : SomeOk out n) (hg : Good25 n R rk) : dnewM out R n = 0 := by
  have := hg.n8
  rw [dnewM, if_pos (some_check h (by omega))]
  exact rank_new hg.rank (by omega) hg.ok
theorem setM_clk (C : TC) (now : Nat) (d k : Int) (s : TSt) (h : s.clk ≤ MaxT) : (setM C now d k s).1.clk ≤ MaxT := by
  unfold setM
  split
  · exact h
  · rename_i h1
    split
    · exact h
    · show now ≤ MaxT
      omega
/-- Set's result and state. -/
theorem setM_cases (C : TC) (now d k : Nat) (s : TSt) : (setM C now (d : Int) (k : Int) s).2.2 ≠ 0 ∧ (setM C now (d : Int) (k : Int) s).1 = s ∨ ((setM C now (d : Int) (k : Int) s).2.2 = 0 ∧ (setM C now (d : Int) (k : Int) s).1.st = rup s.st d k ∧ (setM C now (d : Int) (k : Int) s).1.clk = now) := by
  unfold setM
  split
  · exact .inl ⟨by simp, rfl⟩
  · split
    · exact .inl ⟨by simp, rfl⟩
    · exact .inr ⟨rfl, rfl, rfl⟩
end Go.Proofs.Ytdocdgghphhdpaa

/- Walks: the law's large, reverse. -/
namespace Go.Proofs.Ytdocdgghphhdpaa
open Go.RowKit

def LgOk (raw : List DV) : Prop := raw.length ≤ 20 ∧ ∀ x ∈ raw, ∀ k, k < 4 → (x.rl k).length ≤ 20
def LgRet (w : World) (raw : List DV) (e : Ending) (w' : World) : Prop := ∃ b, e = .returned (.bool b) ∧ (b = false → LgOk raw) ∧ w = w'
def Lg1 (w : World) (raw : List DV) (m : Nat) (i : Value) (wr : World) : Prop := ∃ k : Nat, k ≤ raw.length ∧ i = .int .i64 (k : Int) ∧ (∀ j x, j < k → raw[j]? = some x → ∀ q, q < 4 → (x.rl q).length ≤ 20) ∧ w = wr ∧ m = raw.length - k
def Lg2 (w : World) (r : DV) (m : Nat) (i : Value) (wr : World) : Prop := ∃ k : Nat, k ≤ 4 ∧ i = .int .i64 (k : Int) ∧ (∀ q, q < k → (r.rl q).length ≤ 20) ∧ w = wr ∧ m = 4 - k
set_option maxHeartbeats 4000000 in
theorem large27_any (A : Option Addr) (cp : Nat) (raw : List DV) (w : World) (hr : DvsAt w A raw) (hl : raw.length ≤ maxLen) :
    Calls Try.prog 14 #[.slice A raw.length cp] w (LgRet w raw) := by
  unfold maxLen at hl
  have HR := hide hr
  clear hr
  by_cases h20 : 20 < raw.length
  · have h20' : (20 : Int) < (raw.length : Int) := by omega
    go_enter Try.func14, Try.ntmps14
    go_wp2
    go_ret
    exact ⟨true, rfl, (fun h => by cases h), rfl⟩
  · have h20' : ¬ (20 : Int) < (raw.length : Int) := by omega
    go_enter Try.func14, Try.ntmps14
    go_wp2
    go_loopg [3] raw.length (fun m i wr => Lg1 w raw m i wr)
    case atStart => exact ⟨0, by omega, rfl, fun j x hj => by omega, rfl, rfl⟩
    case round =>
      obtain ⟨k, hk, rfl, hall, rfl, hmm⟩ := hrel
      have HM := hide hmm
      have HALL := hide hall
      clear hmm hall
      by_cases hlt : k < raw.length
      · obtain ⟨r, hx⟩ : ∃ r, raw[k]? = some r := ⟨_, List.getElem?_eq_getElem hlt⟩
        have HX := hide hx
        have hkl : (k : Int) < (raw.length : Int) := by omega
        clear hx
        go_wp2
        go_loopg [4] 4 (fun m i wr => Lg2 w r m i wr)
        case atStart => exact ⟨0, by omega, rfl, fun j hj => by omega, rfl, rfl⟩
        case round =>
          obtain ⟨j, hj, rfl, hall, rfl, hmm⟩ := hrel
          have HM2 := hide hmm
          have HA2 := hide hall
          clear hmm hall
          by_cases hj4 : j < 4
          · obtain ⟨ob, oo, A', cp', rfl, cR, -⟩ := HR.out.rail HX.out hj4
            have hji : (j : Int) < 4 := by omega
            by_cases hb : 20 < (r.rl j).length
            · have hb' : (20 : Int) < ((r.rl j).length : Int) := by omega
              go_wp2
              go_ret
              exact ⟨true, rfl, (fun h => by cases h), rfl⟩
            · have hb' : ¬ (20 : Int) < ((r.rl j).length : Int) := by omega
              go_wp2
              go_roundg (4 - (j + 1))
              case measure => rw [HM2.out]; omega
              case rel =>
                refine ⟨j + 1, by omega, by go_num, fun q hq => ?_, rfl, rfl⟩
                by_cases e : q = j
                · subst e; omega
                · exact HA2.out q (by omega)
          · have hji : ¬ (j : Int) < 4 := by omega
            go_wp2
            go_roundg (raw.length - (k + 1))
            case measure => rw [HM.out]; omega
            case rel =>
              refine ⟨k + 1, by omega, by go_num, fun q x hq hx => ?_, rfl, rfl⟩
              by_cases e : q = k
              · subst e
                rw [HX.out] at hx
                injection hx with hx
                subst hx
                exact fun p hp => HA2.out p (by omega)
              · exact HALL.out q x (by omega) hx
      · have hkl : ¬ (k : Int) < (raw.length : Int) := by omega
        go_wp2
        go_ret
        refine ⟨false, rfl, fun _ => ⟨by omega, fun x hx q hq => ?_⟩, rfl⟩
        obtain ⟨j, hj⟩ := List.getElem?_of_mem hx
        exact HALL.out j x (by have := (List.getElem?_eq_some_iff.1 hj).1; omega) hj q hq
end Go.Proofs.Ytdocdgghphhdpaa

/- help.Equal at ints, walked. -/
namespace Go.Proofs.Ytdocdgghphhdpaa
open Go.RowKit

def EqRel {α : Type} (w : World) (la lb : List α) (m : Nat) (i : Value) (wr : World) : Prop := ∃ k : Nat, k ≤ la.length ∧ i = .int .i64 k ∧ la.take k = lb.take k ∧ Fr [] w wr ∧ m = la.length - k
set_option maxHeartbeats 1000000 in
theorem equalInts_any (A B : Option Addr) (cp cq : Nat) (la lb : List Int) (w : World) (ha : Row w A (la.map (Value.int .i64))) (hb : Row w B (lb.map (Value.int .i64))) (hn : la.length ≤ 4096) (_ : lb.length ≤ 4096) :
    Calls Try.prog 55 #[.slice A la.length cp, .slice B lb.length cq] w fun e w' => e = .returned (.bool (decide (la = lb))) ∧ Fr [] w w' := by
  have HA := hide ha
  have HB := hide hb
  clear ha hb
  by_cases hl : la.length = lb.length
  · have hne : ((la.length : Int) != (lb.length : Int)) = false := by simp [hl]
    have HL := hide hl
    clear hl
    go_enter Try.func55, Try.ntmps55
    go_wp2
    go_loopg [5] la.length (fun n i wr => EqRel w la lb n i wr)
    case atStart => exact ⟨0, Nat.zero_le _, rfl, rfl, Fr.refl _ _, rfl⟩
    case round =>
      obtain ⟨k, hk, rfl, heq, hfr, hmm⟩ := hrel
      have HEQ := hide heq
      have HM := hide hmm
      clear heq hmm
      by_cases hlt : k < la.length
      · have hlt2 : k < lb.length := by rw [← HL.out]; exact hlt
        obtain ⟨pa, hpa⟩ : ∃ pa, la[k]? = some pa := ⟨_, List.getElem?_eq_getElem hlt⟩
        obtain ⟨pb, hpb⟩ : ∃ pb, lb[k]? = some pb := ⟨_, List.getElem?_eq_getElem hlt2⟩
        obtain ⟨ob, oo, rfl, c1⟩ := (HA.out.fr0 hfr).int hpa
        obtain ⟨ob', oo', rfl, c3⟩ := (HB.out.fr0 hfr).int hpb
        have HPA := hide hpa
        have HPB := hide hpb
        clear hpa hpb
        have hk1 : (k : Int) < (la.length : Int) := by omega
        have hk2 : (k : Int) < (lb.length : Int) := by omega
        by_cases e1 : pa = pb
        · subst e1
          have eb : (pa != pa) = false := by simp
          go_wp2
          go_quiet (fail)
          go_wp2
          go_roundg (la.length - (k + 1))
          case measure => rw [HM.out]; omega
          case rel =>
            refine ⟨k + 1, by omega, by go_num, ?_, hfr.drewN _, rfl⟩
            rw [List.take_add_one, List.take_add_one, HPA.out, HPB.out, HEQ.out]
        · have eb : (pa != pb) = true := by simp [e1]
          go_wp2
          go_quiet (fail)
          go_wp2
          go_ret
          refine ⟨ret_bool ?_, hfr.drewN _⟩
          rw [eq_comm, decide_eq_false_iff_not]
          intro e
          have h1 := HPA.out
          rw [e, HPB.out] at h1
          injection h1 with h1
          exact e1 h1.symm
      · have hk1 : ¬ (k : Int) < (la.length : Int) := by omega
        go_wp2
        go_ret
        refine ⟨ret_bool ?_, hfr⟩
        rw [eq_comm, decide_eq_true_eq]
        have := HEQ.out
        rwa [List.take_of_length_le (by omega), List.take_of_length_le (by rw [← HL.out]; omega)] at this
  · have hne : ((la.length : Int) != (lb.length : Int)) = true := by simp; omega
    have hd : decide (la = lb) = false := decide_eq_false (fun e => hl (by rw [e]))
    have HD := hide hd
    clear hl hd
    go_enter Try.func55, Try.ntmps55
    go_wp2
    go_ret
    exact ⟨ret_bool HD.out.symm, Fr.refl _ _⟩
end Go.Proofs.Ytdocdgghphhdpaa

