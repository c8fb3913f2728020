/- Walks: suspend.Trace. -/
import Derived.Test.YtdocdgghphhdpaaMgSuspFail22
import Derived.Test.YtdocdgghphhdpaaMgSuspFail6
import Derived.Laws.CopyOwn
namespace Go.Proofs.Ytdocdgghphhdpaa
open Go.RowKit

theorem op_info : (Try.prog.info? 69).map (fun i => (i.zero, i.size, i.bytes)) = some (some (.agg #[.int .i64 0, .int .i64 0]), 2, 16) := by kernel_rfl

def TraceRel (w : World) (b : Nat) (K : Nat) (res : List Int) (R : List (Nat × Nat)) (n : Nat) (v : Value) (wr : World) : Prop :=
  ∃ (S : Seq) (ops : List (Nat × Nat)), S.Ok ∧ SeqAt wr b S ∧ wr.ownsRow w.heap.size 69 2 v ops.length (opCells ops) ∧ Fr [] w wr ∧ S.mu < n ∧ n + ops.length = K ∧ traceF res n S ops = R

theorem nv_one (n : Nat) : (nv n).oneCell' = true := rfl

theorem one2 (p d : Nat) : ∀ u ∈ [nv p, nv d], u.oneCell' = true := by
  intro u hu
  simp only [List.mem_cons, List.not_mem_nil, or_false] at hu
  rcases hu with rfl | rfl <;> rfl
set_option maxHeartbeats 4000000 in
theorem trace_any (A A2 : Option Addr) (cp cp2 : Nat) (l res : List Int) (w : World) (hr : Row w A (l.map (Value.int .i64))) (hA : A = none → cp = 0) (hn : l.length ≤ 4096)
    (hr2 : Row w A2 (res.map (Value.int .i64))) (hn2 : res.length ≤ 4096) :
    Calls Try.prog 72 #[.slice A l.length cp, .slice A2 res.length cp2] w (OwnRet w 69 2 (traceM l res).length (opCells (traceM l res))) := by
  obtain ⟨i0, hi0, hz0, hz1, hz2⟩ := info_parts op_info
  have HI := hide (And.intro hi0 (And.intro hz0 (And.intro hz1 hz2)))
  have HR := hide hr
  have HR2 := hide hr2
  have HA := hide hA
  clear hr hr2 hA hi0 hz0 hz1 hz2
  go_enter Try.func72, Try.ntmps72
  go_wp2_with fail
  refine (new_any A cp l w HR.out HA.out hn).mono ?_
  rintro e w1 (⟨hno, rfl, hfr⟩ | ⟨⟨h64, hg⟩, b, rfl, hbg, hat, hfr⟩)
  · have hm : traceM l res = [] := by
      unfold traceM
      rw [if_neg]
      rw [okB_iff]
      exact hno
    go_wp2
    go_ret
    rw [hm]
    exact ⟨_, rfl, own_nil _ _ _ _, hfr⟩
  · have hm : traceM l res = traceF res (8 * l.length + 3) (seq0 (l.map Int.toNat)) [] := by
      unfold traceM
      rw [if_pos (okB_iff.2 ⟨h64, hg⟩)]
    have hok := seq0_ok (okOrd_of_good h64 hg)
    have hmu := seq0_mu (l.map Int.toNat)
    rw [List.length_map] at hmu
    have hs0 : SeqAt w1 b (seq0 (l.map Int.toNat)) := by
      unfold seq0
      rw [List.length_map]
      exact hat.lo0
    have HRR := hide hm.symm
    clear hm hg hat
    go_wp2
    go_loopg [7] (8 * l.length + 3) (fun n v wr => TraceRel w b (8 * l.length + 3) res (traceM l res) n v wr)
    case atStart => exact ⟨_, [], hok, hs0, own_nil _ _ _ _, hfr, hmu, by simp, HRR.out⟩
    case round =>
      obtain ⟨S, ops, sok, hat, hown, hfr1, hmu1, hk1, htr⟩ := hrel
      obtain ⟨k, rfl⟩ : ∃ k, gk = k + 1 := ⟨gk - 1, by omega⟩
      obtain ⟨A7, cp7, rfl, _, _, hlt7⟩ := own_slice hown
      have hno7 : ∀ g, Value.ownBlock (.slice A7 ops.length cp7) = some g → g ≠ b := fun g hg e => by
        subst e
        obtain ⟨_, _, cs, hb⟩ := own_block hown hg
        obtain ⟨A0, cp0, cs0, hb0, _⟩ := hat
        exact Blk.ne_ hb hb0 (by decide) rfl
      have HTR := hide htr
      have HOWN := hide hown
      have HNO := hide hno7
      have HLT := hide hlt7
      have rok := Seq.rouse_ok sok
      have rmu := S.rouse_mu
      clear htr hown hs0 hok hmu hno7 hlt7
      go_wp2_with fail
      refine (asleep_any hat).mono ?_
      rintro e w2 ⟨rfl, rfl⟩
      cases hs : S.asleep
      case' true =>
        have HS := hide hs
        clear hs
        go_wp2_with fail
        refine (wake_any hat sok.ord).mono ?_
        rintro e w2 ⟨rfl, hat2, hfr2⟩
        have er : S.wake.1 = S.rouse := by simp [Seq.rouse, HS.out]
        rw [er] at hat2
        clear er
      case' false =>
        have hat2 : SeqAt wr b S.rouse := by simpa [Seq.rouse, hs] using hat
        have hfr2 : Fr [b] wr wr := Fr.refl _ _
        clear hs
      all_goals
        go_wp2_with fail
        refine (next_any hat2 rok).mono ?_
        rintro e w3 ⟨rfl, hfr3⟩
        have hat3 := hat2.fr0 hfr3
        have hfr3' : Fr [b] wr w3 := hfr2.call hfr3
        have hfrw : Fr [] w w3 := hfr1.step hfr3' (fun i hi => .inr (by simp at hi; omega))
        have hown3 : w3.ownsRow w.heap.size 69 2 (.slice A7 ops.length cp7) ops.length (opCells ops) := own_fr HOWN.out hfr3' (fun g hg hm => HNO.out g hg (by simpa using hm))
        have HOWN3 := hide hown3
        clear hown3 hfr3 hfr2 hfr3'
        have HS3 := hide (hat3)
        generalize hnx : S.rouse.next = nx
        obtain ⟨⟨p, d⟩, pend⟩ := nx
        have HNX := hide hnx
        clear hnx
        cases pend
        · go_wp2
          go_ret
          have : traceM l res = ops := by rw [← HTR.out]; simp [traceF, HNX.out]
          rw [this]
          exact ⟨_, rfl, own_fr HOWN3.out ((Fr.refl [] _).alloc _) (fun _ _ => by simp), hfrw.alloc _⟩
        · have hpn : S.rouse.st = 1 ∨ S.rouse.st = 3 := by
            have := HNX.out
            unfold Seq.next at this
            split at this
            · assumption
            · cases this
          have cmu := Seq.complete_mu rok (res.getD ops.length 0) hpn
          have cok := Seq.complete_ok rok (res.getD ops.length 0)
          have hfin : ∀ n, n = k → traceF res n (S.rouse.complete (res.getD ops.length 0)).1 (ops ++ [(p, d)]) = traceM l res := fun n e => by
            subst e
            rw [← HTR.out]
            simp [traceF, HNX.out]
          have HF := hide hfin
          clear hpn hfin
          generalize hr0 : res.getD ops.length 0 = r at cmu cok HF
          by_cases hl : ops.length < res.length
          case' pos =>
            have hget : (res.map (Value.int .i64))[ops.length]? = some (.int .i64 r) := by
              rw [← hr0]; simp [hl, List.getD_eq_getElem?_getD]
            obtain ⟨ob, oo, rfl, hc⟩ := (HR2.out.fr0 hfrw).at_ hget
            have hob := World.block_lt_of_cell? w3 _ hc
            simp only at hob
            clear hget hr0
          case' neg =>
            have hrz : r = 0 := by
              rw [← hr0, List.getD_eq_getElem?_getD, List.getElem?_eq_none (by omega)]; rfl
            subst hrz
            clear hr0
          all_goals
            go_wp2_with (first
              | (at_builtin
                 refine wpList_append_row _ rfl (.tmp 40) (.tmp 42) _ rfl w.heap.size 69 i0 (.agg #[.int .i64 0, .int .i64 0]) 2 16 Try.underlying130 HI.out.1 HI.out.2.1 HI.out.2.2.1 HI.out.2.2.2 rfl (by omega) (.slice A7 ops.length cp7) ops.length (opCells ops) rfl
                   (own_fr HOWN3.out (((Fr.refl [] _).alloc _).alloc _) (fun _ _ => by simp)) (some ⟨w3.heap.size + 1, 0, none⟩) 1 1 [nv p, nv d] rfl rfl (row_lit _ _ _ (by simp)) (one2 p d) (by simp only [maxLen]; omega) (by omega) (by have := hfrw.size; simp; omega) ?_
                 intro v1 w4 hown4 hg4 hat4))
            have hfr4 : Fr (Value.ownBlock (.slice A7 ops.length cp7)).toList w3 w4 := (((Fr.refl _ _).alloc _).alloc _).grown hg4 (fun g e => .inl (by rw [e]; simp))
            have hs4 : SeqAt w4 b S.rouse := by
              refine hat3.fr hfr4 (fun hm => ?_) (fun g hg _ => ?_)
              · exact HNO.out b (by simpa using hm) rfl
              · obtain ⟨_, _, cs, hb⟩ := own_block HOWN3.out (g := g) (by simpa using hg)
                exact ⟨_, cs, hb, by decide⟩
            have hfw4 : Fr [] w w4 := hfrw.step hfr4 (fun g hg => .inr (own_block HOWN3.out (g := g) (by simpa using hg)).1)
            have hno4 : ∀ g, v1.ownBlock = some g → g ∉ [b] := fun g hg hm => by
              have e : g = b := by simpa using hm
              subst e
              obtain ⟨_, _, cs, hb⟩ := own_block hown4 hg
              obtain ⟨A0, cp0, cs0, hb0, _⟩ := hs4
              exact Blk.ne_ hb hb0 (by decide) rfl
            refine (complete_any _ hs4 rok).mono ?_
            rintro e w5 ⟨rfl, hat5, hfr5⟩
            have hown5 := own_fr hown4 hfr5 hno4
            go_wp2
            go_roundg k
            case measure => omega
            case rel =>
              refine ⟨_, ops ++ [(p, d)], cok, hat5, ?_, hfw4.step hfr5 (fun i hi => .inr (by simp at hi; omega)), by omega, by simp; omega, HF.out k rfl⟩
              rw [opCells_snoc, List.length_append]
              exact hown5
end Go.Proofs.Ytdocdgghphhdpaa

/- Walks: help.Mod, help.Equal at sleep operations. -/
namespace Go.Proofs.Ytdocdgghphhdpaa
open Go.RowKit


theorem opCells_get {l : List (Nat × Nat)} {k : Nat} {o : Nat × Nat} (h : l[k]? = some o) : (opCells l)[k * 2]? = some (nv o.1) ∧ (opCells l)[k * 2 + 1]? = some (nv o.2) := by
  induction l generalizing k with
  | nil => simp at h
  | cons a l ih =>
    cases k with
    | zero =>
      simp at h
      subst h
      exact ⟨rfl, rfl⟩
    | succ k =>
      simp at h
      have := ih h
      rw [show (k + 1) * 2 = k * 2 + 2 by omega, show k * 2 + 2 + 1 = k * 2 + 1 + 2 by omega]
      simpa [opCells] using this

set_option maxHeartbeats 1000000 in
theorem equalOps_any (A B : Option Addr) (cp cq : Nat) (la lb : List (Nat × Nat)) (w : World) (ha : Row w A (opCells la)) (hb : Row w B (opCells lb)) (hn : la.length ≤ 4096) (hm : lb.length ≤ 4096) :
    Calls Try.prog 73 #[.slice A la.length cp, .slice B lb.length cq] w fun e w' => e = .returned (.bool (decide (la = lb))) ∧ Fr [] w w' := by
  have HA := hide ha
  have HB := hide hb
  clear ha hb
  by_cases hl : la.length = lb.length
  · have hne : ((la.length : Int) != (lb.length : Int)) = false := by simp [hl]
    have HL := hide hl
    clear hl
    go_enter Try.func73, Try.ntmps73
    go_wp2
    go_loopg [5] la.length (fun n i wr => ∃ k : Nat, k ≤ la.length ∧ i = .int .i64 k ∧ la.take k = lb.take k ∧ Fr [] w wr ∧ n = la.length - k)
    case atStart => exact ⟨0, Nat.zero_le _, rfl, rfl, Fr.refl _ _, rfl⟩
    case round =>
      obtain ⟨k, hk, rfl, heq, hfr, hmm⟩ := hrel
      have HEQ := hide heq
      have HM := hide hmm
      clear heq hmm
      by_cases hlt : k < la.length
      · have hlt2 : k < lb.length := by rw [← HL.out]; exact hlt
        obtain ⟨pa, hpa⟩ : ∃ pa, la[k]? = some pa := ⟨_, List.getElem?_eq_getElem hlt⟩
        obtain ⟨pb, hpb⟩ : ∃ pb, lb[k]? = some pb := ⟨_, List.getElem?_eq_getElem hlt2⟩
        obtain ⟨ob, oo, rfl, c1⟩ := (HA.out.fr0 hfr).at_ (opCells_get hpa).1
        obtain ⟨_, _, e1, c2⟩ := (HA.out.fr0 hfr).at_ (opCells_get hpa).2
        cases e1
        obtain ⟨ob', oo', rfl, c3⟩ := (HB.out.fr0 hfr).at_ (opCells_get hpb).1
        obtain ⟨_, _, e2, c4⟩ := (HB.out.fr0 hfr).at_ (opCells_get hpb).2
        cases e2
        have HPA := hide hpa
        have HPB := hide hpb
        clear hpa hpb
        have hk1 : (k : Int) < (la.length : Int) := by omega
        have hk2 : (k : Int) < (lb.length : Int) := by omega
        rw [← Nat.add_assoc] at c2 c4
        obtain ⟨a1, a2⟩ := pa
        obtain ⟨b1, b2⟩ := pb
        simp only at c1 c2 c3 c4
        by_cases e1 : a1 = b1
        · subst e1
          by_cases e2 : a2 = b2
          · subst e2
            go_wp2
            go_quiet (fail)
            go_wp2
            go_roundg (la.length - (k + 1))
            case measure => rw [HM.out]; omega
            case rel =>
              refine ⟨k + 1, by omega, by go_num, ?_, hfr.drewN _, rfl⟩
              rw [List.take_add_one, List.take_add_one, HPA.out, HPB.out, HEQ.out]
          · go_wp2
            go_quiet (fail)
            go_wp2
            go_ret
            refine ⟨ret_bool ?_, hfr.drewN _⟩
            rw [eq_comm, decide_eq_false_iff_not]
            intro e
            have h1 := HPA.out
            rw [e, HPB.out] at h1
            injection h1 with h1
            injection h1 with _ h1
            exact e2 h1.symm
        · go_wp2
          go_quiet (fail)
          go_wp2
          go_ret
          refine ⟨ret_bool ?_, hfr.drewN _⟩
          rw [eq_comm, decide_eq_false_iff_not]
          intro e
          have h1 := HPA.out
          rw [e, HPB.out] at h1
          injection h1 with h1
          injection h1 with h1 _
          exact e1 h1.symm
      · go_wp2
        go_ret
        refine ⟨ret_bool ?_, hfr⟩
        rw [eq_comm, decide_eq_true_iff]
        have h1 := HEQ.out
        have hl1 := HL.out
        rw [List.take_of_length_le (by omega), List.take_of_length_le (by omega)] at h1
        exact h1
  · have hne : ((la.length : Int) != (lb.length : Int)) = true := by rw [bne_iff_ne]; omega
    have HL := hide hl
    clear hl
    go_enter Try.func73, Try.ntmps73
    go_wp2
    go_ret
    refine ⟨ret_bool ?_, Fr.refl _ _⟩
    rw [eq_comm, decide_eq_false_iff_not]
    intro e
    exact HL.out (by rw [e])
end Go.Proofs.Ytdocdgghphhdpaa

/- Walks: law30's awake. -/
namespace Go.Proofs.Ytdocdgghphhdpaa
open Go.RowKit

def demoA : List (Nat × Nat) := [(1, 0), (1, 1), (2, 1), (2, 0), (3, 1), (3, 0), (4, 1), (4, 0), (5, 0), (5, 1), (6, 0), (6, 1), (7, 0), (7, 1), (8, 1), (8, 0)]
def demoB : List (Nat × Nat) := [(1, 0), (1, 1), (2, 1), (2, 0), (7, 1), (8, 1), (8, 0)]
theorem trace_demoA : traceM [0, 1] [] = demoA := by decide +kernel
theorem trace_demoB : traceM [0, 1] [0, 0, 0, 17] = demoB := by decide +kernel

set_option maxHeartbeats 1000000 in
set_option maxRecDepth 10000 in
theorem awake30_any (w : World) : Calls Try.prog 31 #[] w fun e w' => e = .returned (.bool true) ∧ Fr [] w w' := by
  go_enter Try.func31, Try.ntmps31
  go_wp2_with fail
  refine (trace_any (some ⟨w.heap.size, 0, none⟩) none 2 0 [0, 1] [] _ (row_lit w _ _ rfl) (fun e => by cases e) (by simp) (Row.nil _ _) (by simp)).mono ?_
  rintro e w1 ⟨v1, rfl, hown1, hfr1⟩
  rw [trace_demoA] at hown1
  obtain ⟨A1, c1, rfl, -, hrow1, -⟩ := own_slice hown1
  have HR1 := hide hrow1
  have hfw1 : Fr [] w w1 := ((Fr.refl [] _).alloc _).call hfr1
  clear hrow1 hown1 hfr1
  go_wp2_with fail
  refine (trace_any (some ⟨w1.heap.size, 0, none⟩) (some ⟨w1.heap.size + 1, 0, none⟩) 2 4 [0, 1] [0, 0, 0, 17] _ ((row_lit w1 _ _ rfl).fr0 ((Fr.refl [] _).alloc _)) (fun e => by cases e) (by simp) (row_lit _ _ _ (by simp)) (by simp)).mono ?_
  rintro e w2 ⟨v2, rfl, hown2, hfr2⟩
  rw [trace_demoB] at hown2
  obtain ⟨A2, c2, rfl, -, hrow2, -⟩ := own_slice hown2
  have HR2 := hide hrow2
  have hf12 : Fr [] w1 w2 := (((Fr.refl [] _).alloc _).alloc _).call hfr2
  clear hrow2 hown2 hfr2
  go_wp2_with fail
  refine (equalOps_any A1 (some ⟨w2.heap.size, 0, none⟩) c1 16 demoA demoA _ (HR1.out.fr0 ((hf12.alloc _).alloc _)) ((row_lit w2 _ _ rfl).fr0 ((Fr.refl [] _).alloc _)) (by simp [demoA]) (by simp [demoA])).mono ?_
  rintro e w3 ⟨rfl, hfr3⟩
  have hf23 : Fr [] w2 w3 := (((Fr.refl [] _).alloc _).alloc _).call hfr3
  have hr3 := (row_lit (w2.alloc (.cells (opCells demoA).toArray 69)) (opCells demoB).toArray 69 (g := w2.heap.size + 1) (by simp)).fr0 hfr3
  have HR3 := hide hr3
  clear hr3 hfr3
  go_wp2_with fail
  refine (equalOps_any A2 (some ⟨w2.heap.size + 1, 0, none⟩) c2 7 demoB demoB _ (HR2.out.fr0 hf23) HR3.out (by simp [demoB]) (by simp [demoB])).mono ?_
  rintro e w4 ⟨rfl, hfr4⟩
  go_wp2
  go_ret
  exact ⟨rfl, ((hfw1.call hf12).call hf23).call hfr4⟩
end Go.Proofs.Ytdocdgghphhdpaa

/- Walks: law30's Order. -/
namespace Go.Proofs.Ytdocdgghphhdpaa
open Go.RowKit

def ordM (raw : List Int) : Nat → List Nat
  | 0 => []
  | i + 1 => (ordM raw i).take (umod (raw.getD i 0) (i + 1)) ++ i :: (ordM raw i).drop (umod (raw.getD i 0) (i + 1))
theorem ordM_length (raw : List Int) : ∀ i, (ordM raw i).length = i
  | 0 => rfl
  | i + 1 => by
    have h1 := ordM_length raw i
    have h2 := umod_lt (raw.getD i 0) (n := i + 1) (by omega)
    simp [ordM, h1]
    omega
def ordR (raw : List Int) : List Nat := ordM raw (min raw.length 7)

theorem int_size : (Try.prog.info? 3).map (·.size) = some 1 := by kernel_rfl
theorem addr_add (g o j : Nat) : (⟨g, o, none⟩ : Addr).add j = ⟨g, o + j, none⟩ := by
  unfold Addr.add
  split
  · rename_i h; subst h; rfl
  · rfl
def OrdRel (w : World) (raw : List Int) (n : Nat) (m : Nat) (v i : Value) (wr : World) : Prop :=
  ∃ k : Nat, k ≤ n ∧ i = .int .i64 k ∧ wr.ownsRow w.heap.size 3 1 v k ((ordM raw k).map nv) ∧ Fr [] w wr ∧ m = n - k

theorem ord_splice {o : List Nat} {cur : List Value} {q k : Nat} (h1 : (o.drop q |>.map nv).length = k - q) (h2 : o.length = k) (hq : q ≤ k) (hc : k + 1 ≤ cur.length) (h3 : cur.take ((k + 1) * 1) = o.map nv ++ [.int .i64 0]) :
    ((splice cur (q + 1) (o.drop q |>.map nv)).toArray.setIfInBounds q (.int .i64 k)).toList.take ((k + 1) * 1) = (o.take q ++ k :: o.drop q).map nv := by
  have hl : (splice cur (q + 1) (o.drop q |>.map nv)).length = cur.length := length_splice _ _ _ (by rw [h1]; omega)
  have hcu : ∀ i, i < k → cur[i]? = (o.map nv)[i]? := fun i hi => by
    have : (cur.take ((k + 1) * 1))[i]? = (o.map nv ++ [.int .i64 0])[i]? := by rw [h3]
    rw [List.getElem?_take, if_pos (by omega), List.getElem?_append_left (by rw [List.length_map]; omega)] at this
    exact this
  apply List.ext_getElem?
  intro i
  rw [List.getElem?_take]
  split
  · rename_i hi
    have hi' : i < k + 1 := by omega
    simp only [List.setIfInBounds_toArray]
    rw [List.getElem?_set]
    split
    · rename_i e
      subst e
      rw [if_pos (by rw [hl]; omega)]
      rw [List.map_append, List.getElem?_append_right (by simp; omega)]
      simp [nv, h2, Nat.min_eq_left hq]
    · rename_i hne
      unfold splice
      rw [List.map_append]
      rcases Nat.lt_or_ge i q with h | h
      · rw [List.getElem?_append_left (by rw [List.length_take]; omega), List.getElem?_take, if_pos (by omega), hcu i (by omega), List.getElem?_append_left (by simp; omega)]
        simp [List.getElem?_take, h]
      · rw [List.getElem?_append_right (by rw [List.length_take]; omega), List.length_take, Nat.min_eq_left (by omega), List.getElem?_append_left (by rw [h1]; omega), List.getElem?_append_right (by simp; omega)]
        simp only [List.length_map, List.length_take, h2, Nat.min_eq_left hq, List.map_cons]
        rw [show i - q = (i - (q + 1)) + 1 by omega, List.getElem?_cons_succ]
  · rename_i hi
    rw [List.getElem?_eq_none]
    simp [h2]
    omega
end Go.Proofs.Ytdocdgghphhdpaa

