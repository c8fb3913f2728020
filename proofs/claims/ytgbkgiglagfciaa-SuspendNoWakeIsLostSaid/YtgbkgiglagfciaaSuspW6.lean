/- Walks: suspend.Trace. -/
import Derived.Test.YtgbkgiglagfciaaSuspM2
namespace Go.Proofs.Ytgbkgiglagfciaa
open Go.RowKit

theorem op_info : (Try.prog.info? 30).map (fun i => (i.zero, i.size, i.bytes)) = some (some (.agg #[.int .i64 0, .int .i64 0]), 2, 16) := by kernel_rfl

def TraceRel (w : World) (b : Nat) (K : Nat) (res : List Int) (R : List (Nat × Nat)) (n : Nat) (v : Value) (wr : World) : Prop :=
  ∃ (S : Seq) (ops : List (Nat × Nat)), S.Ok ∧ SeqAt wr b S ∧ wr.ownsRow w.heap.size 30 2 v ops.length (opCells ops) ∧ Fr [] w wr ∧ S.mu < n ∧ n + ops.length = K ∧ traceF res n S ops = R

theorem nv_one (n : Nat) : (nv n).oneCell' = true := rfl

theorem one2 (p d : Nat) : ∀ u ∈ [nv p, nv d], u.oneCell' = true := by
  intro u hu
  simp only [List.mem_cons, List.not_mem_nil, or_false] at hu
  rcases hu with rfl | rfl <;> rfl
set_option maxHeartbeats 4000000 in
theorem trace_any (A A2 : Option Addr) (cp cp2 : Nat) (l res : List Int) (w : World) (hr : Row w A (l.map (Value.int .i64))) (hA : A = none → cp = 0) (hn : l.length ≤ 4096)
    (hr2 : Row w A2 (res.map (Value.int .i64))) (hn2 : res.length ≤ 4096) :
    Calls Try.prog 16 #[.slice A l.length cp, .slice A2 res.length cp2] w (OwnRet w 30 2 (traceM l res).length (opCells (traceM l res))) := by
  obtain ⟨i0, hi0, hz0, hz1, hz2⟩ := info_parts op_info
  have HI := hide (And.intro hi0 (And.intro hz0 (And.intro hz1 hz2)))
  have HR := hide hr
  have HR2 := hide hr2
  have HA := hide hA
  clear hr hr2 hA hi0 hz0 hz1 hz2
  go_enter Try.func16, Try.ntmps16
  go_wp2_with fail
  refine (new_any A cp l w HR.out HA.out hn).mono ?_
  rintro e w1 (⟨hno, rfl, hfr⟩ | ⟨⟨h64, hg⟩, b, rfl, hbg, hat, hfr⟩)
  · have hm : traceM l res = [] := by
      unfold traceM
      rw [if_neg]
      rw [okB_iff]
      exact hno
    go_wp2
    go_ret
    rw [hm]
    exact ⟨_, rfl, own_nil _ _ _ _, hfr⟩
  · have hm : traceM l res = traceF res (8 * l.length + 3) (seq0 (l.map Int.toNat)) [] := by
      unfold traceM
      rw [if_pos (okB_iff.2 ⟨h64, hg⟩)]
    have hok := seq0_ok (okOrd_of_good h64 hg)
    have hmu := seq0_mu (l.map Int.toNat)
    rw [List.length_map] at hmu
    have hs0 : SeqAt w1 b (seq0 (l.map Int.toNat)) := by
      unfold seq0
      rw [List.length_map]
      exact hat
    have HRR := hide hm.symm
    clear hm hg hat
    go_wp2
    go_loopg [7] (8 * l.length + 3) (fun n v wr => TraceRel w b (8 * l.length + 3) res (traceM l res) n v wr)
    case atStart => exact ⟨_, [], hok, hs0, own_nil _ _ _ _, hfr, hmu, by simp, HRR.out⟩
    case round =>
      obtain ⟨S, ops, sok, hat, hown, hfr1, hmu1, hk1, htr⟩ := hrel
      obtain ⟨k, rfl⟩ : ∃ k, gk = k + 1 := ⟨gk - 1, by omega⟩
      obtain ⟨A7, cp7, rfl, _, _, hlt7⟩ := own_slice hown
      have hno7 : ∀ g, Value.ownBlock (.slice A7 ops.length cp7) = some g → g ≠ b := fun g hg e => by
        subst e
        obtain ⟨_, _, cs, hb⟩ := own_block hown hg
        obtain ⟨A0, cp0, cs0, hb0, _⟩ := hat
        exact Blk.ne_ hb hb0 (by decide) rfl
      have HTR := hide htr
      have HOWN := hide hown
      have HNO := hide hno7
      have HLT := hide hlt7
      have rok := Seq.rouse_ok sok
      have rmu := S.rouse_mu
      clear htr hown hs0 hok hmu hno7 hlt7
      go_wp2_with fail
      refine (asleep_any hat).mono ?_
      rintro e w2 ⟨rfl, rfl⟩
      cases hs : S.asleep
      case' true =>
        have HS := hide hs
        clear hs
        go_wp2_with fail
        refine (wake_any hat sok.ord).mono ?_
        rintro e w2 ⟨rfl, hat2, hfr2⟩
        have er : S.wake.1 = S.rouse := by simp [Seq.rouse, HS.out]
        rw [er] at hat2
        clear er
      case' false =>
        have hat2 : SeqAt wr b S.rouse := by simpa [Seq.rouse, hs] using hat
        have hfr2 : Fr [b] wr wr := Fr.refl _ _
        clear hs
      all_goals
        go_wp2_with fail
        refine (next_any hat2 rok).mono ?_
        rintro e w3 ⟨rfl, hfr3⟩
        have hat3 := hat2.fr0 hfr3
        have hfr3' : Fr [b] wr w3 := hfr2.call hfr3
        have hfrw : Fr [] w w3 := hfr1.step hfr3' (fun i hi => .inr (by simp at hi; omega))
        have hown3 : w3.ownsRow w.heap.size 30 2 (.slice A7 ops.length cp7) ops.length (opCells ops) := own_fr HOWN.out hfr3' (fun g hg hm => HNO.out g hg (by simpa using hm))
        have HOWN3 := hide hown3
        clear hown3 hfr3 hfr2 hfr3'
        have HS3 := hide (hat3)
        generalize hnx : S.rouse.next = nx
        obtain ⟨⟨p, d⟩, pend⟩ := nx
        have HNX := hide hnx
        clear hnx
        cases pend
        · go_wp2
          go_ret
          have : traceM l res = ops := by rw [← HTR.out]; simp [traceF, HNX.out]
          rw [this]
          exact ⟨_, rfl, own_fr HOWN3.out ((Fr.refl [] _).alloc _) (fun _ _ => by simp), hfrw.alloc _⟩
        · have hpn : S.rouse.st = 1 ∨ S.rouse.st = 3 := by
            have := HNX.out
            unfold Seq.next at this
            split at this
            · assumption
            · cases this
          have cmu := Seq.complete_mu rok (res.getD ops.length 0) hpn
          have cok := Seq.complete_ok rok (res.getD ops.length 0)
          have hfin : ∀ n, n = k → traceF res n (S.rouse.complete (res.getD ops.length 0)).1 (ops ++ [(p, d)]) = traceM l res := fun n e => by
            subst e
            rw [← HTR.out]
            simp [traceF, HNX.out]
          have HF := hide hfin
          clear hpn hfin
          generalize hr0 : res.getD ops.length 0 = r at cmu cok HF
          by_cases hl : ops.length < res.length
          case' pos =>
            have hget : (res.map (Value.int .i64))[ops.length]? = some (.int .i64 r) := by
              rw [← hr0]; simp [hl, List.getD_eq_getElem?_getD]
            obtain ⟨ob, oo, rfl, hc⟩ := (HR2.out.fr0 hfrw).at_ hget
            have hob := World.block_lt_of_cell? w3 _ hc
            simp only at hob
            clear hget hr0
          case' neg =>
            have hrz : r = 0 := by
              rw [← hr0, List.getD_eq_getElem?_getD, List.getElem?_eq_none (by omega)]; rfl
            subst hrz
            clear hr0
          all_goals
            go_wp2_with (first
              | (at_builtin
                 refine wpList_append_row _ rfl (.tmp 40) (.tmp 42) _ rfl w.heap.size 30 i0 (.agg #[.int .i64 0, .int .i64 0]) 2 16 Try.underlying31 HI.out.1 HI.out.2.1 HI.out.2.2.1 HI.out.2.2.2 rfl (by omega) (.slice A7 ops.length cp7) ops.length (opCells ops) rfl
                   (own_fr HOWN3.out (((Fr.refl [] _).alloc _).alloc _) (fun _ _ => by simp)) (some ⟨w3.heap.size + 1, 0, none⟩) 1 1 [nv p, nv d] rfl rfl (row_lit _ _ _ (by simp)) (one2 p d) (by simp only [maxLen]; omega) (by omega) (by have := hfrw.size; simp; omega) ?_
                 intro v1 w4 hown4 hg4 hat4))
            have hfr4 : Fr (Value.ownBlock (.slice A7 ops.length cp7)).toList w3 w4 := (((Fr.refl _ _).alloc _).alloc _).grown hg4 (fun g e => .inl (by rw [e]; simp))
            have hs4 : SeqAt w4 b S.rouse := by
              refine hat3.fr hfr4 (fun hm => ?_) (fun g hg _ => ?_)
              · exact HNO.out b (by simpa using hm) rfl
              · obtain ⟨_, _, cs, hb⟩ := own_block HOWN3.out (g := g) (by simpa using hg)
                exact ⟨_, cs, hb, by decide⟩
            have hfw4 : Fr [] w w4 := hfrw.step hfr4 (fun g hg => .inr (own_block HOWN3.out (g := g) (by simpa using hg)).1)
            have hno4 : ∀ g, v1.ownBlock = some g → g ∉ [b] := fun g hg hm => by
              have e : g = b := by simpa using hm
              subst e
              obtain ⟨_, _, cs, hb⟩ := own_block hown4 hg
              obtain ⟨A0, cp0, cs0, hb0, _⟩ := hs4
              exact Blk.ne_ hb hb0 (by decide) rfl
            refine (complete_any _ hs4 rok).mono ?_
            rintro e w5 ⟨rfl, hat5, hfr5⟩
            have hown5 := own_fr hown4 hfr5 hno4
            go_wp2
            go_roundg k
            case measure => omega
            case rel =>
              refine ⟨_, ops ++ [(p, d)], cok, hat5, ?_, hfw4.step hfr5 (fun i hi => .inr (by simp at hi; omega)), by omega, by simp; omega, HF.out k rfl⟩
              rw [opCells_snoc, List.length_append]
              exact hown5
end Go.Proofs.Ytgbkgiglagfciaa
