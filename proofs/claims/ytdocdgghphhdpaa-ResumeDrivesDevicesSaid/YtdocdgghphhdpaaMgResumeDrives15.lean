/- Plain: what Some makes of devices and rails is valid, and the tree of them. -/
import Derived.Test.YtdocdgghphhdpaaTrW2Mg
import Derived.Test.YtdocdgghphhdpaaTrW3Mg
import Derived.Test.YtdocdgghphhdpaaMgResumeDrives13
import Derived.Test.YtdocdgghphhdpaaRlW5Mg
import Derived.Test.YtdocdgghphhdpaaDevW12Mg
import Derived.Test.YtdocdgghphhdpaaMgResumeDrives0
import Derived.Test.YtdocdgghphhdpaaProg
import Derived.Lib.Hide
import Derived.Deep.LoopGhost
import Derived.Deep.QuietTactic
import Derived.BigQuiet
namespace Go.Proofs.Ytdocdgghphhdpaa
open Go.RowKit

/-- What some27 gives, without memory. -/
structure SomeOk (out : List DV) (n : Nat) : Prop where
  len : out.length ≤ 6
  el : ∀ i x, out[i]? = some x → ∃ (r : DV) (rf : Nat → Value), x = (⟨someP r i rf, someRl r n⟩ : DV)
theorem someOk_of {raw out : List DV} {n : Nat} (h : SomeTo raw out n (min raw.length 6)) : SomeOk out n := by
  refine ⟨by rw [h.1]; omega, fun i x hx => ?_⟩
  have hi : i < min raw.length 6 := by rw [← h.1]; exact (List.getElem?_eq_some_iff.1 hx).1
  obtain ⟨rf, e⟩ := h.2 i _ hi (List.getElem?_eq_getElem (by omega))
  rw [hx] at e
  injection e with e
  exact ⟨_, rf, e⟩
theorem someRl_ok (r : DV) (n k : Nat) : ascB (someRl r n k) = true ∧ (∀ v ∈ someRl r n k, 0 ≤ v ∧ v < (n : Int)) ∧ (someRl r n k).length ≤ 3 := by
  unfold someRl
  split
  · exact ⟨ascB_asc (ascL_asc _ _), fun v hv => ascL_mem hv, ascL_len _ _⟩
  · exact ⟨by decide, (fun v hv => by cases hv), by simp⟩
theorem dfM_step (f : Nat → Int) (k : Nat) : dfM f k ≤ dfM f (k + 1) ∧ (dfM f k ≤ 4 → dfM f (k + 1) ≤ 4) := by
  have := umod_lt (f (k + 1)) (show 0 < 5 by omega)
  rw [dfM]
  omega
theorem someP_ok (r : DV) (i n : Nat) (rf : Nat → Value) : devOk ⟨someP r i rf, someRl r n⟩ i (n : Int) = true := by
  have h1 := umod_lt r.d.par (show 0 < i + 1 by omega)
  have h2 := umod_lt r.d.wd (show 0 < 4 by omega)
  have h3 := umod_lt r.d.ws (show 0 < 5 by omega)
  have hr : railsB (someRl r n) (n : Int) = true := railsB_yes (fun k _ => ⟨(someRl_ok r n k).1, (someRl_ok r n k).2.1⟩)
  have d0 : dfM r.d.df 0 = 0 := rfl
  have d1 := dfM_step r.d.df 0
  have d2 := dfM_step r.d.df 1
  have d3 := dfM_step r.d.df 2
  have d4 := dfM_step r.d.df 3
  have d5 := dfM_step r.d.df 4
  simp only [Nat.zero_add, Nat.reduceAdd] at d1 d2 d3 d4 d5
  have hd : deepB (someP r i rf) = true := by
    unfold deepB
    refine decide_eq_true ⟨rfl, ?_, ?_⟩
    · unfold srtB PD.deepL
      refine decide_eq_true (fun j hj => ?_)
      simp only [someP, List.length_cons, List.length_nil] at hj ⊢
      have : j = 0 ∨ j = 1 ∨ j = 2 ∨ j = 3 ∨ j = 4 := by omega
      rcases this with rfl | rfl | rfl | rfl | rfl <;> simp [List.getD] <;> omega
    · show dfM r.d.df 5 ≤ 4
      omega
  unfold devOk
  rw [hr, hd, Bool.and_true, Bool.and_true]
  refine (Bool.and_eq_true _ _).mpr ⟨decide_eq_true ?_, decide_eq_true ?_⟩
  · simp only [someP]
    omega
  · simp only [someP]
    omega
theorem some_check {out : List DV} {n : Nat} (h : SomeOk out n) (hn : n ≤ 64) : dcheckM out (n : Int) = 0 := by
  have hl := h.len
  have hb : devsB out (n : Int) = true := devsB_yes (k := out.length) (fun i x _ hx => by
    obtain ⟨r, rf, rfl⟩ := h.el i x hx
    exact someP_ok r i n rf) (Nat.le_refl _)
  unfold dcheckM
  rw [if_neg (by omega), if_pos hb]
/-- The tree's constants. -/
noncomputable def mkTC (out : List DV) (n : Nat) (R : Nat → RailD) (ch : Nat → List Nat) : TC :=
  ⟨out.length, fun i => (out[i]?.map fun x => x.d.par).getD 0, fun i => (out[i]?.map fun x => x.rl).getD fun _ => [], n, R, ch⟩
theorem mkTC_tie (out : List DV) (n : Nat) (R : Nat → RailD) (ch : Nat → List Nat) : ∀ i x, out[i]? = some x → x.d.par = (mkTC out n R ch).par i ∧ x.rl = (mkTC out n R ch).rl i := fun i x hx => by
  simp [mkTC, hx]
theorem good_ch {m : Nat} {R : Nat → RailD} {rk : Nat → Nat} (h : Good25 m R rk) : ∃ ch : Nat → List Nat, ∀ k, k < m → Chn m R k (ch k) ∧ (ch k).length ≤ 64 := by
  have h1 : ∀ k, ∃ L, k < m → Chn m R k L ∧ L.length ≤ 64 := fun k => by
    by_cases hk : k < m
    · obtain ⟨L, a, -, b⟩ := chn_of_rank h.rank (rk k) k (Nat.le_refl _) hk
      have := h.rk8 k
      exact ⟨L, fun _ => ⟨a, by omega⟩⟩
    · exact ⟨[], fun h => absurd h hk⟩
  exact ⟨fun k => (h1 k).choose, fun k hk => (h1 k).choose_spec hk⟩
theorem mkTC_ok {out : List DV} {n : Nat} {R : Nat → RailD} {ch : Nat → List Nat} (h : SomeOk out n) (hn : n ≤ 8) (hch : ∀ k, k < n → Chn n R k (ch k) ∧ (ch k).length ≤ 64) : TOk (mkTC out n R ch) := by
  have hrl : ∀ i q, (mkTC out n R ch).rl i q = [] ∨ ∃ r, (mkTC out n R ch).rl i q = someRl r n q := fun i q => by
    cases hx : out[i]? with
    | none => left; simp [mkTC, hx]
    | some x =>
      obtain ⟨r, rf, rfl⟩ := h.el i x hx
      right
      exact ⟨r, by simp [mkTC, hx]⟩
  have hneed : ∀ i q, needL ((mkTC out n R ch).rl i) q = [] ∨ ∃ r, needL ((mkTC out n R ch).rl i) q = someRl r n q := fun i q => by
    unfold needL
    split
    · exact .inl rfl
    · exact hrl i q
  refine ⟨Nat.le_trans h.len (by omega), Nat.le_trans hn (by omega), fun i hi => ?_, fun i q => ?_, fun i q => ?_, fun i q hi v hv => ?_, hch⟩
  · have hi' : i < out.length := hi
    obtain ⟨r, rf, e⟩ := h.el i _ (List.getElem?_eq_getElem hi')
    have h1 := umod_lt r.d.par (show 0 < i + 1 by omega)
    have h2 : (mkTC out n R ch).par i = (umod r.d.par (i + 1) : Int) - 1 := by
      have : out[i]? = some _ := List.getElem?_eq_getElem hi'
      simp [mkTC, this, e, someP]
    rw [h2]
    omega
  · rcases hneed i q with e | ⟨r, e⟩ <;> rw [e]
    · decide
    · exact (someRl_ok r n q).1
  · rcases hrl i q with e | ⟨r, e⟩ <;> rw [e]
    · simp
    · have := (someRl_ok r n q).2.2
      omega
  · rcases hneed i q with e | ⟨r, e⟩ <;> rw [e] at hv
    · cases hv
    · exact (someRl_ok r n q).2.1 v hv
theorem heldN_rsz (R : Nat → RailD) (j : Nat) : ∀ i, heldN R rsz j i = 0
  | 0 => rfl
  | i + 1 => by
    rw [heldN, heldN_rsz R j i]
    simp [rsz]
theorem useN_four (C : TC) (j : Nat) : ∀ i, useN C (fun _ => 4) j i = 0
  | 0 => rfl
  | i + 1 => by
    rw [useN, useN_four C j i]
    simp [needL]
theorem tsz_inv (C : TC) : TInv C tsz :=
  ⟨fun j _ => by show 0 = heldN C.R rsz j C.n + useN C (fun _ => 4) j C.nd; rw [heldN_rsz, useN_four], Nat.le_refl _, fun _ => Nat.le_refl _, fun _ _ _ _ => Nat.le_refl _⟩
theorem good_new {out : List DV} {n : Nat} {R : Nat → RailD} {rk : Nat → Nat} (h : SomeOk out n) (hg : Good25 n R rk) : dnewM out R n = 0 := by
  have := hg.n8
  rw [dnewM, if_pos (some_check h (by omega))]
  exact rank_new hg.rank (by omega) hg.ok
theorem setM_clk (C : TC) (now : Nat) (d k : Int) (s : TSt) (h : s.clk ≤ MaxT) : (setM C now d k s).1.clk ≤ MaxT := by
  unfold setM
  split
  · exact h
  · rename_i h1
    split
    · exact h
    · show now ≤ MaxT
      omega
/-- Set's result and state. -/
theorem setM_cases (C : TC) (now d k : Nat) (s : TSt) : (setM C now (d : Int) (k : Int) s).2.2 ≠ 0 ∧ (setM C now (d : Int) (k : Int) s).1 = s ∨ ((setM C now (d : Int) (k : Int) s).2.2 = 0 ∧ (setM C now (d : Int) (k : Int) s).1.st = rup s.st d k ∧ (setM C now (d : Int) (k : Int) s).1.clk = now) := by
  unfold setM
  split
  · exact .inl ⟨by simp, rfl⟩
  · split
    · exact .inl ⟨by simp, rfl⟩
    · exact .inr ⟨rfl, rfl, rfl⟩
end Go.Proofs.Ytdocdgghphhdpaa

/- Walks: the law's large, reverse. -/
namespace Go.Proofs.Ytdocdgghphhdpaa
open Go.RowKit

def LgOk (raw : List DV) : Prop := raw.length ≤ 20 ∧ ∀ x ∈ raw, ∀ k, k < 4 → (x.rl k).length ≤ 20
def LgRet (w : World) (raw : List DV) (e : Ending) (w' : World) : Prop := ∃ b, e = .returned (.bool b) ∧ (b = false → LgOk raw) ∧ w = w'
def Lg1 (w : World) (raw : List DV) (m : Nat) (i : Value) (wr : World) : Prop := ∃ k : Nat, k ≤ raw.length ∧ i = .int .i64 (k : Int) ∧ (∀ j x, j < k → raw[j]? = some x → ∀ q, q < 4 → (x.rl q).length ≤ 20) ∧ w = wr ∧ m = raw.length - k
def Lg2 (w : World) (r : DV) (m : Nat) (i : Value) (wr : World) : Prop := ∃ k : Nat, k ≤ 4 ∧ i = .int .i64 (k : Int) ∧ (∀ q, q < k → (r.rl q).length ≤ 20) ∧ w = wr ∧ m = 4 - k
set_option maxHeartbeats 4000000 in
theorem large27_any (A : Option Addr) (cp : Nat) (raw : List DV) (w : World) (hr : DvsAt w A raw) (hl : raw.length ≤ maxLen) :
    Calls Try.prog 14 #[.slice A raw.length cp] w (LgRet w raw) := by
  unfold maxLen at hl
  have HR := hide hr
  clear hr
  by_cases h20 : 20 < raw.length
  · have h20' : (20 : Int) < (raw.length : Int) := by omega
    go_enter Try.func14, Try.ntmps14
    go_wp2
    go_ret
    exact ⟨true, rfl, (fun h => by cases h), rfl⟩
  · have h20' : ¬ (20 : Int) < (raw.length : Int) := by omega
    go_enter Try.func14, Try.ntmps14
    go_wp2
    go_loopg [3] raw.length (fun m i wr => Lg1 w raw m i wr)
    case atStart => exact ⟨0, by omega, rfl, fun j x hj => by omega, rfl, rfl⟩
    case round =>
      obtain ⟨k, hk, rfl, hall, rfl, hmm⟩ := hrel
      have HM := hide hmm
      have HALL := hide hall
      clear hmm hall
      by_cases hlt : k < raw.length
      · obtain ⟨r, hx⟩ : ∃ r, raw[k]? = some r := ⟨_, List.getElem?_eq_getElem hlt⟩
        have HX := hide hx
        have hkl : (k : Int) < (raw.length : Int) := by omega
        clear hx
        go_wp2
        go_loopg [4] 4 (fun m i wr => Lg2 w r m i wr)
        case atStart => exact ⟨0, by omega, rfl, fun j hj => by omega, rfl, rfl⟩
        case round =>
          obtain ⟨j, hj, rfl, hall, rfl, hmm⟩ := hrel
          have HM2 := hide hmm
          have HA2 := hide hall
          clear hmm hall
          by_cases hj4 : j < 4
          · obtain ⟨ob, oo, A', cp', rfl, cR, -⟩ := HR.out.rail HX.out hj4
            have hji : (j : Int) < 4 := by omega
            by_cases hb : 20 < (r.rl j).length
            · have hb' : (20 : Int) < ((r.rl j).length : Int) := by omega
              go_wp2
              go_ret
              exact ⟨true, rfl, (fun h => by cases h), rfl⟩
            · have hb' : ¬ (20 : Int) < ((r.rl j).length : Int) := by omega
              go_wp2
              go_roundg (4 - (j + 1))
              case measure => rw [HM2.out]; omega
              case rel =>
                refine ⟨j + 1, by omega, by go_num, fun q hq => ?_, rfl, rfl⟩
                by_cases e : q = j
                · subst e; omega
                · exact HA2.out q (by omega)
          · have hji : ¬ (j : Int) < 4 := by omega
            go_wp2
            go_roundg (raw.length - (k + 1))
            case measure => rw [HM.out]; omega
            case rel =>
              refine ⟨k + 1, by omega, by go_num, fun q x hq hx => ?_, rfl, rfl⟩
              by_cases e : q = k
              · subst e
                rw [HX.out] at hx
                injection hx with hx
                subst hx
                exact fun p hp => HA2.out p (by omega)
              · exact HALL.out q x (by omega) hx
      · have hkl : ¬ (k : Int) < (raw.length : Int) := by omega
        go_wp2
        go_ret
        refine ⟨false, rfl, fun _ => ⟨by omega, fun x hx q hq => ?_⟩, rfl⟩
        obtain ⟨j, hj⟩ := List.getElem?_of_mem hx
        exact HALL.out j x (by have := (List.getElem?_eq_some_iff.1 hj).1; omega) hj q hq
end Go.Proofs.Ytdocdgghphhdpaa

/- help.Equal at ints, walked. -/
namespace Go.Proofs.Ytdocdgghphhdpaa
open Go.RowKit

def EqRel {α : Type} (w : World) (la lb : List α) (m : Nat) (i : Value) (wr : World) : Prop := ∃ k : Nat, k ≤ la.length ∧ i = .int .i64 k ∧ la.take k = lb.take k ∧ Fr [] w wr ∧ m = la.length - k
set_option maxHeartbeats 1000000 in
theorem equalInts_any (A B : Option Addr) (cp cq : Nat) (la lb : List Int) (w : World) (ha : Row w A (la.map (Value.int .i64))) (hb : Row w B (lb.map (Value.int .i64))) (hn : la.length ≤ 4096) (_ : lb.length ≤ 4096) :
    Calls Try.prog 55 #[.slice A la.length cp, .slice B lb.length cq] w fun e w' => e = .returned (.bool (decide (la = lb))) ∧ Fr [] w w' := by
  have HA := hide ha
  have HB := hide hb
  clear ha hb
  by_cases hl : la.length = lb.length
  · have hne : ((la.length : Int) != (lb.length : Int)) = false := by simp [hl]
    have HL := hide hl
    clear hl
    go_enter Try.func55, Try.ntmps55
    go_wp2
    go_loopg [5] la.length (fun n i wr => EqRel w la lb n i wr)
    case atStart => exact ⟨0, Nat.zero_le _, rfl, rfl, Fr.refl _ _, rfl⟩
    case round =>
      obtain ⟨k, hk, rfl, heq, hfr, hmm⟩ := hrel
      have HEQ := hide heq
      have HM := hide hmm
      clear heq hmm
      by_cases hlt : k < la.length
      · have hlt2 : k < lb.length := by rw [← HL.out]; exact hlt
        obtain ⟨pa, hpa⟩ : ∃ pa, la[k]? = some pa := ⟨_, List.getElem?_eq_getElem hlt⟩
        obtain ⟨pb, hpb⟩ : ∃ pb, lb[k]? = some pb := ⟨_, List.getElem?_eq_getElem hlt2⟩
        obtain ⟨ob, oo, rfl, c1⟩ := (HA.out.fr0 hfr).int hpa
        obtain ⟨ob', oo', rfl, c3⟩ := (HB.out.fr0 hfr).int hpb
        have HPA := hide hpa
        have HPB := hide hpb
        clear hpa hpb
        have hk1 : (k : Int) < (la.length : Int) := by omega
        have hk2 : (k : Int) < (lb.length : Int) := by omega
        by_cases e1 : pa = pb
        · subst e1
          have eb : (pa != pa) = false := by simp
          go_wp2
          go_quiet (fail)
          go_wp2
          go_roundg (la.length - (k + 1))
          case measure => rw [HM.out]; omega
          case rel =>
            refine ⟨k + 1, by omega, by go_num, ?_, hfr.drewN _, rfl⟩
            rw [List.take_add_one, List.take_add_one, HPA.out, HPB.out, HEQ.out]
        · have eb : (pa != pb) = true := by simp [e1]
          go_wp2
          go_quiet (fail)
          go_wp2
          go_ret
          refine ⟨ret_bool ?_, hfr.drewN _⟩
          rw [eq_comm, decide_eq_false_iff_not]
          intro e
          have h1 := HPA.out
          rw [e, HPB.out] at h1
          injection h1 with h1
          exact e1 h1.symm
      · have hk1 : ¬ (k : Int) < (la.length : Int) := by omega
        go_wp2
        go_ret
        refine ⟨ret_bool ?_, hfr⟩
        rw [eq_comm, decide_eq_true_eq]
        have := HEQ.out
        rwa [List.take_of_length_le (by omega), List.take_of_length_le (by rw [← HL.out]; omega)] at this
  · have hne : ((la.length : Int) != (lb.length : Int)) = true := by simp; omega
    have hd : decide (la = lb) = false := decide_eq_false (fun e => hl (by rw [e]))
    have HD := hide hd
    clear hl hd
    go_enter Try.func55, Try.ntmps55
    go_wp2
    go_ret
    exact ⟨ret_bool HD.out.symm, Fr.refl _ _⟩
end Go.Proofs.Ytdocdgghphhdpaa

/- Walks: law27's awake. -/
namespace Go.Proofs.Ytdocdgghphhdpaa
open Go.RowKit

def demoRl (k : Nat) : List Int := if k = 0 then [0, 2] else if k = 3 then [2] else []
def demoD (g : Nat) : PD := { par := -1, rf := fun k => if k = 0 then .slice (some ⟨g, 0, none⟩) 2 2 else if k = 3 then .slice (some ⟨g + 1, 0, none⟩) 1 1 else .slice none 0 0, df := fun k => ([0, 3, 3, 4, 4, 4] : List Int).getD k 0, wd := 2, ws := 3 }
theorem demo_ch1 : changeM demoRl 4 0 = ([0, 2], [], 0) := by decide +kernel
theorem demo_ch2 : changeM demoRl 0 3 = ([], [0], 0) := by decide +kernel
theorem demo_t1 (g : Nat) : targetM (demoD g) 3 true = (2, 0) := by rfl
theorem demo_t2 (g : Nat) : targetM (demoD g) 4 true = (0, 13) := by rfl
theorem demo_c1 (g : Nat) : dcheckM [⟨demoD g, demoRl⟩] 3 = 0 := by rfl
theorem demo_c2 (g : Nat) : dcheckM [⟨demoD g, demoRl⟩] 2 = 1 := by rfl
theorem demo_rails {w w' : World} (h : Fr [] ((w.alloc (.cells #[.int .i64 0, .int .i64 2] 3)).alloc (.cells #[.int .i64 2] 3)) w') : RailsAt w' (demoD w.heap.size) demoRl := by
  refine RailsAt.fr0 (w := (w.alloc (.cells #[.int .i64 0, .int .i64 2] 3)).alloc (.cells #[.int .i64 2] 3)) (fun k hk => ?_) h
  have h4 : k = 0 ∨ k = 1 ∨ k = 2 ∨ k = 3 := by omega
  rcases h4 with rfl | rfl | rfl | rfl
  · exact ⟨some ⟨w.heap.size, 0, none⟩, 2, rfl, (row_lit w #[.int .i64 0, .int .i64 2] 3 rfl).fr0 ((Fr.refl [] _).alloc _)⟩
  · exact ⟨none, 0, rfl, Row.nil _ _⟩
  · exact ⟨none, 0, rfl, Row.nil _ _⟩
  · exact ⟨some ⟨w.heap.size + 1, 0, none⟩, 1, rfl, row_lit _ #[.int .i64 2] 3 (by simp)⟩
theorem demo_len (k : Nat) : (demoRl k).length ≤ 4096 := by
  unfold demoRl
  split
  · decide
  · split <;> decide
abbrev demoAt (w : World) (b g : Nat) : Prop := w.cell? ⟨b, 0, none⟩ = some (.int .i64 (-1)) ∧ w.cell? ⟨b, 1, none⟩ = some (.slice (some ⟨g, 0, none⟩) 2 2) ∧ w.cell? ⟨b, 2, none⟩ = some (.slice none 0 0) ∧ w.cell? ⟨b, 3, none⟩ = some (.slice none 0 0) ∧ w.cell? ⟨b, 4, none⟩ = some (.slice (some ⟨g + 1, 0, none⟩) 1 1) ∧ w.cell? ⟨b, 5, none⟩ = some (.int .i64 0) ∧ w.cell? ⟨b, 6, none⟩ = some (.int .i64 3) ∧ w.cell? ⟨b, 7, none⟩ = some (.int .i64 3) ∧ w.cell? ⟨b, 8, none⟩ = some (.int .i64 4) ∧ w.cell? ⟨b, 9, none⟩ = some (.int .i64 4) ∧ w.cell? ⟨b, 10, none⟩ = some (.int .i64 4) ∧ w.cell? ⟨b, 11, none⟩ = some (.int .i64 2) ∧ w.cell? ⟨b, 12, none⟩ = some (.int .i64 3)
theorem demoAt.fr0 {w w' : World} {b g : Nat} (h : demoAt w b g) (k : Fr [] w w') : demoAt w' b g := PD13.fr0 (d := demoD g) h k
set_option maxHeartbeats 8000000 in
set_option maxRecDepth 100000 in
theorem awake27_any (w : World) : Calls Try.prog 15 #[] w fun e w' => e = .returned (.bool true) ∧ Fr [] w w' := by
  obtain ⟨wa, hwa⟩ : ∃ wa, wa = ((w.alloc (.cells #[.int .i64 0, .int .i64 2] 3)).alloc (.cells #[.int .i64 2] 3)).alloc (.cells (demoD w.heap.size).cells 46) := ⟨_, rfl⟩
  have hwa0 := hwa
  have HRL : Hid (∀ w', Fr [] wa w' → RailsAt w' (demoD w.heap.size) demoRl) := hide (fun w' h => demo_rails (Fr.call (by rw [hwa]; exact (Fr.refl _ _).alloc _) h))
  have HF : Hid (Fr [] w wa) := hide (by rw [hwa]; exact (((Fr.refl _ _).alloc _).alloc _).alloc _)
  have HB : Hid (demoAt wa (w.heap.size + 2) w.heap.size) := hide (by
    have h := PD13.new ((w.alloc (.cells #[.int .i64 0, .int .i64 2] 3)).alloc (.cells #[.int .i64 2] 3)) 46 (demoD w.heap.size)
    rw [← hwa] at h
    rw [show ((w.alloc (.cells #[.int .i64 0, .int .i64 2] 3)).alloc (.cells #[.int .i64 2] 3)).heap.size = w.heap.size + 2 by simp] at h
    exact h)
  have HW := hide hwa
  clear hwa
  go_enter Try.func15, Try.ntmps15
  go_upto_region 2 with (fail)
  have hx := HW.out
  simp only [PD.cells, demoD] at hx
  rw [show (((w.alloc (.cells #[.int .i64 0, .int .i64 2] 3)).alloc (.cells #[.int .i64 2] 3)).alloc (.cells #[.int .i64 (-1), .slice (some ⟨w.heap.size, 0, none⟩) 2 2, .slice none 0 0, .slice none 0 0, .slice (some ⟨w.heap.size + 1, 0, none⟩) 1 1, .int .i64 0, .int .i64 3, .int .i64 3, .int .i64 4, .int .i64 4, .int .i64 4, .int .i64 2, .int .i64 3] 46)) = wa from HW.out.symm]
  clear HW hx hwa0
  generalize w.heap.size = g at HRL HB ⊢
  obtain ⟨c0, c1, c2, c3, c4, c5, c6, c7, c8, c9, c10, c11, c12⟩ := HB.out
  go_wp2_with fail
  refine (change27_any (demoD g) demoRl 4 0 wa (HRL.out wa (Fr.refl _ _)) demo_len).mono ?_
  rintro e w1 ⟨v1, v2, rfl, ho1, ho2, hf1⟩
  rw [demo_ch1] at ho1 ho2 ⊢
  obtain ⟨A1, p1, rfl, -, r1, -⟩ := own_slice ho1
  obtain ⟨A2, p2, rfl, -, -, -⟩ := own_slice ho2
  have HR1 := hide r1
  clear ho1 ho2 r1 c0 c1 c2 c3 c4 c5 c6 c7 c8 c9 c10 c11 c12
  obtain ⟨c0, c1, c2, c3, c4, c5, c6, c7, c8, c9, c10, c11, c12⟩ := HB.out.fr0 hf1
  go_wp2_with fail
  refine (change27_any (demoD g) demoRl 0 3 w1 (HRL.out w1 hf1) demo_len).mono ?_
  rintro e w2 ⟨v3, v4, rfl, ho1, ho2, hf2⟩
  rw [demo_ch2] at ho1 ho2 ⊢
  obtain ⟨A3, p3, rfl, -, -, -⟩ := own_slice ho1
  obtain ⟨A4, p4, rfl, -, r4, -⟩ := own_slice ho2
  have HR4 := hide r4
  have hf02 := hf1.call hf2
  clear ho1 ho2 r4 c0 c1 c2 c3 c4 c5 c6 c7 c8 c9 c10 c11 c12
  obtain ⟨c0, c1, c2, c3, c4, c5, c6, c7, c8, c9, c10, c11, c12⟩ := HB.out.fr0 hf02
  go_wp2_with fail
  refine (target27_any (demoD g) 3 true w2).mono ?_
  rintro e w3 ⟨rfl, hf3⟩
  rw [demo_t1]
  have hf03 := hf02.call hf3
  clear c0 c1 c2 c3 c4 c5 c6 c7 c8 c9 c10 c11 c12
  obtain ⟨c0, c1, c2, c3, c4, c5, c6, c7, c8, c9, c10, c11, c12⟩ := HB.out.fr0 hf03
  go_wp2_with fail
  refine (target27_any (demoD g) 4 true w3).mono ?_
  rintro e w4 ⟨rfl, hf4⟩
  rw [demo_t2]
  have hf04 := hf03.call hf4
  clear c0 c1 c2 c3 c4 c5 c6 c7 c8 c9 c10 c11 c12
  have HR1b := hide (HR1.out.fr0 ((hf2.call hf3).call hf4))
  have HR4b := hide (HR4.out.fr0 (hf3.call hf4))
  go_wp2_with fail
  refine (equalInts_any A1 (some ⟨w4.heap.size, 0, none⟩) p1 2 [0, 2] [0, 2] _ (HR1b.out.fr0 ((Fr.refl [] _).alloc _)) (row_lit w4 _ _ rfl) (by simp) (by simp)).mono ?_
  rintro e w5 ⟨rfl, hf5⟩
  rw [decide_eq_true rfl]
  have hf45 : Fr [] w4 w5 := ((Fr.refl [] _).alloc _).call hf5
  have hf05 := hf04.call hf45
  go_wp2_with fail
  refine (equalInts_any A4 (some ⟨w5.heap.size, 0, none⟩) p4 1 [0] [0] _ ((HR4b.out.fr0 hf45).fr0 ((Fr.refl [] _).alloc _)) (row_lit w5 _ _ rfl) (by simp) (by simp)).mono ?_
  rintro e w6 ⟨rfl, hf6⟩
  rw [decide_eq_true rfl]
  have hf06 := (hf05.alloc _).call hf6
  obtain ⟨c0, c1, c2, c3, c4, c5, c6, c7, c8, c9, c10, c11, c12⟩ := HB.out.fr0 hf06
  go_wp2_with fail
  have hr7 := row_lit w6 (demoD g).cells 46 rfl
  refine (check27_any (some ⟨w6.heap.size, 0, none⟩) 1 [⟨demoD g, demoRl⟩] 3 _ ⟨hr7, fun x hx => ?_⟩ (fun x hx k => ?_) (by simp [maxLen])).mono ?_
  · rw [List.mem_singleton.1 hx]
    exact HRL.out _ (hf06.alloc _)
  · rw [List.mem_singleton.1 hx]
    exact demo_len k
  rintro e w7 ⟨rfl, hf7⟩
  rw [demo_c1]
  have hf07 := (hf06.alloc _).call hf7
  clear c0 c1 c2 c3 c4 c5 c6 c7 c8 c9 c10 c11 c12 hr7
  obtain ⟨c0, c1, c2, c3, c4, c5, c6, c7, c8, c9, c10, c11, c12⟩ := HB.out.fr0 hf07
  go_wp2_with fail
  have hr8 := row_lit w7 (demoD g).cells 46 rfl
  refine (check27_any (some ⟨w7.heap.size, 0, none⟩) 1 [⟨demoD g, demoRl⟩] 2 _ ⟨hr8, fun x hx => ?_⟩ (fun x hx k => ?_) (by simp [maxLen])).mono ?_
  · rw [List.mem_singleton.1 hx]
    exact HRL.out _ (hf07.alloc _)
  · rw [List.mem_singleton.1 hx]
    exact demo_len k
  rintro e w8 ⟨rfl, hf8⟩
  rw [demo_c2]
  have hf08 := (hf07.alloc _).call hf8
  clear c0 c1 c2 c3 c4 c5 c6 c7 c8 c9 c10 c11 c12 hr8
  go_wp2
  go_ret
  exact ⟨rfl, HF.out.call hf08⟩
end Go.Proofs.Ytdocdgghphhdpaa

