/- Walks: help.Equal at operations; the law's large, at, do. -/
import Derived.Test.YtdocdgghphhdpaaMgRpInUse18
import Derived.Test.YtdocdgghphhdpaaMgRpInUse6
import Derived.Test.YtdocdgghphhdpaaMgRpInUse7
import Derived.IntWalk
import Derived.Deep.RegionHeld3
import Derived.Deep.DeepCutAuto
namespace Go.Proofs.Ytdocdgghphhdpaa
open Go.RowKit

theorem Row.pop {w : World} {A : Option Addr} {l : List POp} (hr : Row w A (pocs l)) {i : Nat} {x : POp} (h : l[i]? = some x) :
    ∃ ob oo, A = some ⟨ob, oo, none⟩ ∧ w.cell? ⟨ob, oo + i * 3, none⟩ = some (.int .i64 (x.dev : Int)) ∧ w.cell? ⟨ob, oo + i * 3 + 1, none⟩ = some (.bool x.res) ∧ w.cell? ⟨ob, oo + i * 3 + 2, none⟩ = some (.int .u64 (x.tm : Int)) := by
  obtain ⟨ob, oo, e, hc⟩ := Row.el poc_len (by omega) hr h
  exact ⟨ob, oo, e, hc 0 _ rfl, hc 1 _ rfl, hc 2 _ rfl⟩
theorem pocs_length (l : List POp) : (pocs l).length = l.length * 3 := flat_length poc_len l
theorem pocs_append (a b : List POp) : pocs (a ++ b) = pocs a ++ pocs b := by simp [pocs]
theorem pocs_one (l : List POp) : ∀ u ∈ pocs l, u.oneCell' = true := by
  intro u hu
  obtain ⟨o, _, hu⟩ := List.mem_flatMap.1 hu
  simp [poc] at hu
  rcases hu with rfl | rfl | rfl <;> rfl
def EqRelP (w : World) (la lb : List POp) (m : Nat) (i : Value) (wr : World) : Prop := ∃ k : Nat, k ≤ la.length ∧ i = .int .i64 (k : Int) ∧ la.take k = lb.take k ∧ Fr [] w wr ∧ m = la.length - k
set_option maxHeartbeats 2000000 in
theorem equalPops_any (A B : Option Addr) (cp cq : Nat) (la lb : List POp) (w : World) (ha : Row w A (pocs la)) (hb : Row w B (pocs lb)) (hn : la.length ≤ 4096) :
    Calls Try.prog 81 #[.slice A la.length cp, .slice B lb.length cq] w fun e w' => e = .returned (.bool (decide (la = lb))) ∧ Fr [] w w' := by
  have HA := hide ha
  have HB := hide hb
  clear ha hb
  by_cases hl : la.length = lb.length
  · have hne : ((la.length : Int) != (lb.length : Int)) = false := by simp [hl]
    have HL := hide hl
    clear hl
    go_enter Try.func81, Try.ntmps81
    go_wp2
    go_loopg [5] la.length (fun n i wr => EqRelP w la lb n i wr)
    case atStart => exact ⟨0, Nat.zero_le _, rfl, rfl, Fr.refl _ _, rfl⟩
    case round =>
      obtain ⟨k, hk, rfl, heq, hfr, hmm⟩ := hrel
      have HEQ := hide heq
      have HM := hide hmm
      clear heq hmm
      by_cases hlt : k < la.length
      · have hlt2 : k < lb.length := by rw [← HL.out]; exact hlt
        obtain ⟨pa, hpa⟩ : ∃ pa, la[k]? = some pa := ⟨_, List.getElem?_eq_getElem hlt⟩
        obtain ⟨pb, hpb⟩ : ∃ pb, lb[k]? = some pb := ⟨_, List.getElem?_eq_getElem hlt2⟩
        obtain ⟨ob, oo, rfl, c0, c1, c2⟩ := (HA.out.fr0 hfr).pop hpa
        obtain ⟨ob', oo', rfl, d0, d1, d2⟩ := (HB.out.fr0 hfr).pop hpb
        have HPA := hide hpa
        have HPB := hide hpb
        have hk1 : (k : Int) < (la.length : Int) := by omega
        have hk2 : (k : Int) < (lb.length : Int) := by omega
        have hdis : pa ≠ pb → la ≠ lb := fun hne e => hne (by
          rw [e, hpb] at hpa
          injection hpa with h
          exact h.symm)
        clear hpa hpb
        have HDIS := hide hdis
        clear hdis
        obtain ⟨a0, a1, a2⟩ := pa
        obtain ⟨b0, b1, b2⟩ := pb
        simp only at c0 c1 c2 d0 d1 d2
        by_cases e0 : a0 = b0
        · subst e0
          by_cases e1 : a1 = b1
          · subst e1
            by_cases e2 : a2 = b2
            · subst e2
              go_wp2
              go_quiet (fail)
              go_wp2
              go_roundg (la.length - (k + 1))
              case measure => rw [HM.out]; omega
              case rel =>
                refine ⟨k + 1, by omega, by go_num, ?_, hfr.drewN _, rfl⟩
                rw [List.take_add_one, List.take_add_one, HPA.out, HPB.out, HEQ.out]
            · have hx : ¬ (a2 : Int) = (b2 : Int) := by omega
              have HNE := hide (HDIS.out (by simp [e2]))
              clear e2
              go_wp2
              go_quiet (fail)
              go_wp2
              go_ret
              exact ⟨ret_bool (decide_eq_false HNE.out).symm, hfr.drewN _⟩
          · have HNE := hide (HDIS.out (by simp [e1]))
            cases a1 <;> cases b1
            all_goals first
              | exact absurd rfl e1
              | (clear e1
                 go_wp2
                 go_quiet (fail)
                 go_wp2
                 go_ret
                 exact ⟨ret_bool (decide_eq_false HNE.out).symm, hfr.drewN _⟩)
        · have hx : ¬ (a0 : Int) = (b0 : Int) := by omega
          have HNE := hide (HDIS.out (by simp [e0]))
          clear e0
          go_wp2
          go_quiet (fail)
          go_wp2
          go_ret
          exact ⟨ret_bool (decide_eq_false HNE.out).symm, hfr.drewN _⟩
      · have hk1 : ¬ (k : Int) < (la.length : Int) := by omega
        go_wp2
        go_ret
        refine ⟨ret_bool ?_, hfr⟩
        rw [eq_comm, decide_eq_true_eq]
        have := HEQ.out
        rwa [List.take_of_length_le (by omega), List.take_of_length_le (by rw [← HL.out]; omega)] at this
  · have hne : ((la.length : Int) != (lb.length : Int)) = true := by simp; omega
    have hd : decide (la = lb) = false := decide_eq_false (fun e => hl (by rw [e]))
    have HD := hide hd
    clear hl hd
    go_enter Try.func81, Try.ntmps81
    go_wp2
    go_ret
    exact ⟨ret_bool HD.out.symm, Fr.refl _ _⟩
/-- The device and the time of a call. -/
def atM (c : CL) (n now : Nat) : Int × Nat := if c.raw = true ∨ n = 0 then (c.dev, c.wait) else ((umod c.dev n : Int), now + c.wait % 15)
set_option maxHeartbeats 4000000 in
theorem at28_any (c : CL) (n now : Nat) (w : World) (hn : n ≤ 64) (ht : now ≤ 1152921504606846976) :
    Calls Try.prog 43 #[.agg #[.int .i64 c.kind, .int .i64 c.dev, .int .u64 (c.wait : Int), .bool c.raw], .int .i64 (n : Int), uv now] w fun e w' => e = .returned (.tuple #[.int .i64 (atM c n now).1, uv (atM c n now).2]) ∧ Fr [] w w' := by
  have hb := Blk.new w 93 #[.int .i64 c.kind, .int .i64 c.dev, .int .u64 (c.wait : Int), .bool c.raw]
  have hf : Fr [] w (w.alloc (.cells #[.int .i64 c.kind, .int .i64 c.dev, .int .u64 (c.wait : Int), .bool c.raw] 93)) := (Fr.refl _ _).alloc _
  go_enter Try.func43, Try.ntmps43
  go_upto_region 1 with (fail)
  generalize w.alloc (.cells #[.int .i64 c.kind, .int .i64 c.dev, .int .u64 (c.wait : Int), .bool c.raw] 93) = w1 at hb hf ⊢
  generalize w.heap.size = g at hb ⊢
  have c1 : w1.cell? ⟨g, 1, none⟩ = some (.int .i64 c.dev) := hb.cell 1
  have c2 : w1.cell? ⟨g, 2, none⟩ = some (.int .u64 (c.wait : Int)) := hb.cell 2
  have c3 : w1.cell? ⟨g, 3, none⟩ = some (.bool c.raw) := hb.cell 3
  clear hb
  by_cases h : c.raw = true ∨ n = 0
  · have HE : Hid (atM c n now = (c.dev, c.wait)) := hide (by unfold atM; rw [if_pos h])
    cases hr : c.raw with
    | true =>
      rw [hr] at c3
      clear h hr
      go_wp2
      go_quiet (fail)
      go_wp2
      go_ret2
      exact ⟨by rw [HE.out]; rfl, hf.drewN _⟩
    | false =>
      rw [hr] at c3
      obtain rfl : n = 0 := by simpa [hr] using h
      clear h hr
      go_wp2
      go_quiet (fail)
      go_wp2
      go_ret2
      exact ⟨by rw [HE.out]; rfl, hf.drewN _⟩
  · have hr : c.raw = false := by cases hr : c.raw with
      | true => exact absurd (.inl hr) h
      | false => rfl
    have hn0 : 0 < n := Nat.pos_of_ne_zero (fun e => h (.inr e))
    have HE : Hid (atM c n now = ((umod c.dev n : Int), now + c.wait % 15)) := hide (by unfold atM; rw [if_neg h])
    rw [hr] at c3
    have hni : ((n : Int) == 0) = false := by simp; omega
    have hn1 : (1 : Int) ≤ (n : Int) := by omega
    clear h hr
    have h15 : (c.wait : Int).tmod 15 = ((c.wait % 15 : Nat) : Int) := rfl
    have h15b : (c.wait : Int) % 15 = ((c.wait % 15 : Nat) : Int) := rfl
    have hlt15 : c.wait % 15 < 15 := by omega
    generalize c.wait % 15 = t at h15 h15b HE hlt15
    have hw15 : IntKind.u64.wrap ((now : Int) + (t : Int)) = ((now + t : Nat) : Int) := by rw [IntKind.wrap_u64]; omega
    go_upto_region 3 with (fail)
    go_region_held3 (fun w' => w'.cell? ⟨g, 1, none⟩ = some (.int .i64 c.dev) ∧ w'.cell? ⟨g, 2, none⟩ = some (.int .u64 (c.wait : Int))) (go_keep) (first | (go_at_call 24; refine (mod_any c.dev n _ hn0 (by omega)).mono ?_; rintro e w' ⟨rfl, rfl⟩))
    all_goals
      go_wp2
      go_ret2
      exact ⟨by rw [HE.out]; rfl, hf.drew⟩
def doC (M : RM) (s : RS) (c : CL) (now : Nat) : RS × List POp × Int :=
  if umod c.kind 4 = 2 then putC M s (atM c M.n now).1 (atM c M.n now).2 else if umod c.kind 4 = 3 then advC M s (atM c M.n now).2 else getC M s (atM c M.n now).1 (atM c M.n now).2
theorem atM_le (c : CL) (n now : Nat) (hc : c.wait ≤ 18446744073709551615) (ht : now ≤ 1152921504606846976) : (atM c n now).2 ≤ 18446744073709551615 := by
  unfold atM
  split
  · exact hc
  · show now + c.wait % 15 ≤ _
    omega
set_option maxHeartbeats 4000000 in
theorem do28_any {w : World} {P : ML} {M : RM} {s : RS} (h : MgIn w P M s) (hM : MOk M) (hs : SOk M s) (ht : P.top ≤ w.heap.size) (hu : ∀ i, s.use i < 4096) (c : CL) (now : Nat) (hn : now ≤ 1152921504606846976) :
    Calls Try.prog 44 #[.pointer (some ⟨P.b, 0, none⟩), .agg #[.int .i64 c.kind, .int .i64 c.dev, .int .u64 (c.wait : Int), .bool c.raw], .int .i64 (M.n : Int), uv now] w (CallRet w P M (doC M s c now)) := by
  have HIN := hide h
  have HMO := hide hM
  have HSO := hide hs
  have HU := hide hu
  have hn64 := hM.n
  have hb := Blk.new w 93 #[.int .i64 c.kind, .int .i64 c.dev, .int .u64 (c.wait : Int), .bool c.raw]
  have hf : Fr [] w (w.alloc (.cells #[.int .i64 c.kind, .int .i64 c.dev, .int .u64 (c.wait : Int), .bool c.raw] 93)) := (Fr.refl _ _).alloc _
  clear h hM hs hu
  go_enter Try.func44, Try.ntmps44
  go_upto_region 1 with (fail)
  generalize w.alloc (.cells #[.int .i64 c.kind, .int .i64 c.dev, .int .u64 (c.wait : Int), .bool c.raw] 93) = w1 at hb hf ⊢
  generalize w.heap.size = g at hb ⊢
  have c0 : w1.cell? ⟨g, 0, none⟩ = some (.int .i64 c.kind) := hb.cell 0
  have c1 : w1.cell? ⟨g, 1, none⟩ = some (.int .i64 c.dev) := hb.cell 1
  have c2 : w1.cell? ⟨g, 2, none⟩ = some (.int .u64 (c.wait : Int)) := hb.cell 2
  have c3 : w1.cell? ⟨g, 3, none⟩ = some (.bool c.raw) := hb.cell 3
  go_wp2_with fail
  refine (at28_any c M.n now w1 hn64 hn).mono ?_
  rintro e w2 ⟨rfl, hf2⟩
  have d0 := hf2.cell c0 (by simp)
  have hfw := hf.call hf2
  have hz := hfw.size
  have HIN2 := hide (HIN.out.fr0 hfw)
  have HDO : Hid (doC M s c now = if umod c.kind 4 = 2 then putC M s (atM c M.n now).1 (atM c M.n now).2 else if umod c.kind 4 = 3 then advC M s (atM c M.n now).2 else getC M s (atM c M.n now).1 (atM c M.n now).2) := hide rfl
  clear c0 c1 c2 c3 hb
  generalize (atM c M.n now).1 = d at HDO ⊢
  generalize (atM c M.n now).2 = t at HDO ⊢
  go_wp2_with fail
  refine (mod_any c.kind 4 w2 (by omega) (by omega)).mono ?_
  rintro e w3 ⟨rfl, rfl⟩
  have h4 := umod_lt c.kind (show 0 < 4 by omega)
  generalize umod c.kind 4 = q at h4 HDO ⊢
  by_cases h2 : q = 2
  · rw [if_pos h2] at HDO
    subst h2
    go_wp2_with fail
    refine (put28_any HIN2.out HMO.out HSO.out (by omega) d t).mono ?_
    rintro e w4 ⟨v, rfl, hin, hown, hf4⟩
    rw [← HDO.out] at hin hown ⊢
    have HI4 := hide hin
    have HO4 := hide (own_base hown hz)
    have HF4 : Hid (Fr [P.b, P.g] w w4) := hide ((hfw.mono (fun _ _ h => by cases h)).trans hf4)
    clear hin hown
    go_wp2
    go_ret2
    exact ⟨v, rfl, HI4.out, HO4.out, HF4.out⟩
  · by_cases h3 : q = 3
    · rw [if_neg h2, if_pos h3] at HDO
      subst h3
      clear h2
      go_wp2_with fail
      refine (advance28_any HIN2.out HMO.out HSO.out (by omega) t).mono ?_
      rintro e w4 ⟨v, rfl, hin, hown, hf4⟩
      rw [← HDO.out] at hin hown ⊢
      have HI4 := hide hin
      have HO4 := hide (own_base hown hz)
      have HF4 : Hid (Fr [P.b, P.g] w w4) := hide ((hfw.mono (fun _ _ h => by cases h)).trans hf4)
      clear hin hown
      go_wp2
      go_ret2
      exact ⟨v, rfl, HI4.out, HO4.out, HF4.out⟩
    · rw [if_neg h2, if_neg h3] at HDO
      have b2 : ((q : Int) == 2) = false := by simp; omega
      have b3 : ((q : Int) == 3) = false := by simp; omega
      clear h2 h3
      go_wp2_with fail
      refine (get28_any HIN2.out HMO.out HSO.out (by omega) HU.out d t).mono ?_
      rintro e w4 ⟨v, rfl, hin, hown, hf4⟩
      rw [← HDO.out] at hin hown ⊢
      have HI4 := hide hin
      have HO4 := hide (own_base hown hz)
      have HF4 : Hid (Fr [P.b, P.g] w w4) := hide ((hfw.mono (fun _ _ h => by cases h)).trans hf4)
      clear hin hown
      go_wp2
      go_ret2
      exact ⟨v, rfl, HI4.out, HO4.out, HF4.out⟩
end Go.Proofs.Ytdocdgghphhdpaa

