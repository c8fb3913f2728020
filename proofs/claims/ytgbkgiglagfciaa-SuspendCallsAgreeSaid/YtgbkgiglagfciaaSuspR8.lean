/- Walks over the reference of layer 30: Trace. -/
import Derived.Test.YtgbkgiglagfciaaSuspR7
namespace Go.Proofs.Ytgbkgiglagfciaa
open Go.RowKit

theorem RefAt.trim {w : World} {b : Nat} {F : List Nat} {R : RSeq} (h : RefAt w b F R) : RefAt w b (F.filter fun g => decide (g < w.heap.size)) R := by
  obtain ⟨vo, A, cp, vg, hb, hf, hcap, hp⟩ := h
  refine ⟨vo, A, cp, vg, hb, by simp [hf, hb.lt], hcap, hp.own, hp.hplan, hp.hgood, hp.apart, fun g hg => ?_, fun hl ad e => ?_, fun g hg => ?_⟩
  · have := (own_block hp.own hg).2.1
    simp [hp.fo g hg, this]
  · obtain ⟨ob, oo, cs, e', hb', _⟩ := hp.hplan hl
    rw [e] at e'
    cases e'
    have := hb'.lt
    simp only [List.mem_filter]
    exact ⟨hp.fp hl _ e, by simpa using this⟩
  · have := (own_block hp.hgood hg).2.1
    simp [hp.fg g hg, this]
/-- A reference's sequence whose blocks are new since 'base' and there. -/
def RefNew (base : Nat) (w : World) (b : Nat) (F : List Nat) (R : RSeq) : Prop := RefAt w b F R ∧ ∀ g, g ∈ F → base ≤ g ∧ g < w.heap.size
theorem RefNew.of {base : Nat} {w : World} {b : Nat} {F : List Nat} {R : RSeq} (h : RefAt w b F R) (hF : ∀ g, g ∈ F → base ≤ g) : ∃ F', RefNew base w b F' R ∧ ∀ g, g ∈ F' → g ∈ F :=
  ⟨_, ⟨h.trim, fun g hg => by simp at hg; exact ⟨hF g hg.1, hg.2⟩⟩, fun g hg => by simp at hg; exact hg.1⟩
theorem RefNew.ret {base : Nat} {w w' : World} {b : Nat} {F : List Nat} {R R' : RSeq} {v : Value} {e : Ending} (h : RefNew base w b F R) (hb : base ≤ w.heap.size) (hr : RefRet w b F R' v e w') :
    e = .returned v ∧ ∃ F', RefNew base w' b F' R' ∧ Fr F w w' ∧ ∀ g, g ∈ F' → g ∈ F ∨ w.heap.size ≤ g := by
  obtain ⟨he, F1, h1, h2, h3⟩ := hr
  obtain ⟨F', h4, h5⟩ := RefNew.of (base := base) h1 (fun g hg => by rcases h3 g hg with h' | h'; exact (h.2 g h').1; omega)
  exact ⟨he, F', h4, h2, fun g hg => h3 g (h5 g hg)⟩

def RTraceRel (w : World) (b : Nat) (res : List Int) (T : List (Nat × Nat)) (ord : List Nat) (m : Nat) (v7 v8 : Value) (wr : World) : Prop :=
  ∃ (S : Seq) (R : RSeq) (F : List Nat) (ops : List (Nat × Nat)) (n : Nat), Sim S R ∧ S.ord = ord ∧ RefNew w.heap.size wr b F R ∧ wr.ownsRow w.heap.size 30 2 v7 ops.length (opCells ops) ∧ (∀ g, v7.ownBlock = some g → g ∉ F) ∧
    v8 = .int .i64 ops.length ∧ Fr [] w wr ∧ S.mu < n ∧ n + ops.length ≤ 8 * ord.length + 3 ∧ traceF res n S ops = T ∧ m = S.mu
theorem nodup_of_good {l : List Int} (h : Good l) : (l.map Int.toNat).Nodup := by
  unfold List.Nodup
  rw [List.pairwise_iff_getElem]
  intro i j hi hj hij e
  rw [List.length_map] at hi hj
  rw [List.getElem_map, List.getElem_map] at e
  have h1 := h i l[i] hi (List.getElem?_eq_getElem hi)
  have h2 := h j l[j] hj (List.getElem?_eq_getElem hj)
  have he : l[j] = l[i] := by omega
  refine h2.2.2 ?_
  rw [he]
  refine List.mem_iff_getElem?.2 ⟨i, ?_⟩
  rw [List.getElem?_take, if_pos hij]
  exact List.getElem?_eq_getElem hi
theorem rouse_asleep {S : Seq} (h : S.st = 2) : S.rouse = S.wake.1 := by simp [Seq.rouse, Seq.asleep, h]
theorem trace_rouse (res : List Int) {n : Nat} (S : Seq) (ops : List (Nat × Nat)) (h2 : S.st = 2) : traceF res n S.wake.1 ops = traceF res n S ops := by
  have hr : S.rouse = S.wake.1 := rouse_asleep h2
  have hw : S.wake.1 = S.undo 0 := by simp [Seq.wake, h2]
  have hst := Seq.undo_st S 0
  have hrr : S.wake.1.rouse = S.wake.1 := Seq.rouse_of (by rw [hw]; omega)
  cases n with
  | zero => rfl
  | succ k => rw [traceF, traceF, hr, hrr]
theorem Seq.complete_ord (S : Seq) (r : Int) : (S.complete r).1.ord = S.ord := by
  unfold Seq.complete
  split
  · split <;> rfl
  · split <;> rfl
theorem wake_mu {S : Seq} (h2 : S.st = 2) : S.wake.1.mu < S.mu := by
  have hw : S.wake.1 = S.undo 0 := by simp [Seq.wake, h2]
  rw [hw]
  have := Seq.undo_mu S 0
  simp [Seq.mu, h2] at this ⊢
  omega
theorem wake_ord {S : Seq} : S.wake.1.ord = S.ord := by
  unfold Seq.wake
  split <;> rfl

set_option maxHeartbeats 4000000 in
set_option maxRecDepth 100000 in
theorem rtrace_any (A A2 : Option Addr) (cp cp2 : Nat) (l res : List Int) (w : World) (hr : Row w A (l.map (Value.int .i64))) (hn : l.length ≤ 4096)
    (hr2 : Row w A2 (res.map (Value.int .i64))) (hn2 : res.length ≤ 4096) :
    Calls Try.prog 17 #[.slice A l.length cp, .slice A2 res.length cp2] w (OwnRet w 30 2 (traceM l res).length (opCells (traceM l res))) := by
  obtain ⟨i0, hi0, hz0, hz1, hz2⟩ := info_parts op_info
  have HI := hide (And.intro hi0 (And.intro hz0 (And.intro hz1 hz2)))
  have HR := hide hr
  have HR2 := hide hr2
  clear hr hr2 hi0 hz0 hz1 hz2
  go_enter Try.func17, Try.ntmps17
  go_wp2_with fail
  refine (rnew_any A cp l w HR.out hn).mono ?_
  rintro e w1 (⟨hno, rfl, hfr⟩ | ⟨hok, b, F, rfl, hF, hat, hfr⟩)
  · have hm : traceM l res = [] := by
      unfold traceM
      rw [hno]
      rfl
    have HM := hide hm
    clear hm
    go_wp2
    go_ret
    rw [HM.out]
    exact ⟨_, rfl, own_nil _ _ _ _, hfr⟩
  · have hm : traceM l res = traceF res (8 * l.length + 3) (seq0 (l.map Int.toNat)) [] := by
      unfold traceM
      rw [if_pos hok]
    obtain ⟨h64, hg⟩ := okB_iff.1 hok
    have hoo := okOrd_of_good h64 hg
    have hnd : (l.map Int.toNat).Nodup := nodup_of_good hg
    have hsim := sim_init hoo
    have hmu := seq0_mu (l.map Int.toNat)
    have hll : (l.map Int.toNat).length = l.length := by simp
    rw [← hll] at hm
    generalize l.map Int.toNat = ord at hm hoo hnd hsim hmu hat hll
    obtain ⟨F0, hnew, -⟩ := RefNew.of hat hF
    have hol : ord.length ≤ 64 := by omega
    have HM := hide hm.symm
    have HSIM := hide hsim
    have HND := hide hnd
    have HNEW := hide hnew
    obtain ⟨T, hTe⟩ : ∃ T, T = traceM l res := ⟨_, rfl⟩
    have HTE := hide hTe
    rw [← hTe] at HM
    clear hTe
    clear hm hoo hnd hsim hg hok hat hF hnew hll h64
    go_wp2
    go_loopg [7, 8] (seq0 ord).mu (fun m v7 v8 wr => RTraceRel w b res T ord m v7 v8 wr)
    case atStart => exact ⟨_, _, F0, [], 8 * ord.length + 3, HSIM.out, rfl, HNEW.out, own_nil _ _ _ _, (fun g hg => by cases hg), rfl, hfr, hmu, by simp, HM.out, rfl⟩
    case round =>
      obtain ⟨S, R, F, ops, n, hsim, hord, hnw, hown, hap, rfl, hfr1, hmu1, hn1, htr, hm⟩ := hrel
      obtain ⟨A7, cp7, rfl, -, -, -⟩ := own_slice hown
      have hro : R.ord.length ≤ 64 := by rw [hsim.ord, hord]; exact hol
      have hrg : R.good.length ≤ 256 := by have := hsim.glen; rw [hord] at this; omega
      have hst := hsim.ok.st
      have hdone := hsim.done
      have hslp := hsim.sleeps
      have hbb := hnw.1
      obtain ⟨vo, Ap, cpp, vg, hb, -, -, -⟩ := hbb
      have c5 := hb.cell 5
      have c4 := hb.cell 4
      simp [refCells] at c4 c5
      rw [hdone] at c5
      rw [hslp] at c4
      have HS := hide hsim
      have HNW := hide hnw
      have HOWN := hide hown
      have HAP := hide hap
      have HTR := hide htr
      have HMM := hide hm
      have HRO := hide hro
      have HRG := hide hrg
      have HORD := hide hord
      have hol2 : ops.length ≤ 1000 := by omega
      clear hsim hnw hown hap htr hm hro hrg hord hb hdone hslp HSIM HNEW hfr HM
      by_cases h4 : S.st = 4
      · have e5 : decide (S.st = 4) = true := by simpa using h4
        rw [e5] at c5
        have HST := hide h4
        clear h4 e5 hst
        go_wp2
        go_ret
        have hT : T = ops := by
          rw [← HTR.out]
          obtain ⟨k, rfl⟩ : ∃ k, n = k + 1 := ⟨n - 1, by omega⟩
          rw [traceF, Seq.rouse_of (by rw [HST.out]; omega), Seq.plan_done HST.out]
          simp
        rw [← HTE.out, hT]
        exact ⟨_, rfl, HOWN.out, hfr1⟩
      · have e5 : decide (S.st = 4) = false := by simpa using h4
        rw [e5] at c5
        by_cases h2 : S.st = 2
        · have e4 : decide (S.st = 2) = true := by simpa using h2
          rw [e4] at c4
          have HST := hide h2
          clear h2 h4 e4 e5 hst
          go_wp2_with fail
          refine (rwake_any HNW.out.1 HRO.out HRG.out).mono ?_
          intro e w2 hret
          obtain ⟨rfl, F', hnw2, hfr2, hF2⟩ := HNW.out.ret hfr1.size hret
          have hown2 := own_fr HOWN.out hfr2 HAP.out
          have hap2 : ∀ g, Value.ownBlock (.slice A7 ops.length cp7) = some g → g ∉ F' := fun g hg hm => by
            rcases hF2 g hm with h | h
            · exact HAP.out g hg h
            · have := (own_block HOWN.out hg).2.1
              omega
          have hf2 : Fr [] w w2 := hfr1.step hfr2 (fun g hg => .inr (HNW.out.2 g hg).1)
          have hsw := sim_wake HS.out
          have HX := hide (And.intro hnw2 (And.intro hown2 (And.intro hap2 (And.intro hf2 hsw.1))))
          clear hret hnw2 hfr2 hF2 hown2 hap2 hf2 hsw c4 c5
          go_wp2
          go_roundg S.wake.1.mu
          case measure => rw [HMM.out]; exact wake_mu HST.out
          case rel =>
            obtain ⟨x1, x2, x3, x4, x5⟩ := HX.out
            exact ⟨_, _, F', ops, n, x5, by rw [wake_ord]; exact HORD.out, x1, x2, x3, by go_num, x4, Nat.lt_trans (wake_mu HST.out) hmu1, hn1, by rw [trace_rouse res S ops HST.out]; exact HTR.out, rfl⟩
        · have e4 : decide (S.st = 2) = false := by simpa using h2
          rw [e4] at c4
          have h13 : S.st = 1 ∨ S.st = 3 := by omega
          have H13 := hide h13
          have HN2 := hide h2
          clear h2 h4 e4 e5 hst h13
          go_wp2_with fail
          refine (rnext_any HNW.out.1).mono ?_
          rintro e w3 ⟨rfl, hfr3⟩
          rw [sim_next HS.out, Seq.next_of H13.out]
          simp only
          obtain ⟨p, hp⟩ : ∃ p, S.ph = p := ⟨_, rfl⟩
          obtain ⟨d, hd⟩ : ∃ d, S.dev = d := ⟨_, rfl⟩
          rw [hp, hd]
          have HNX : S.next = ((p, d), true) := by rw [Seq.next_of H13.out, hp, hd]
          have HNXH := hide HNX
          have hnw3 : RefNew w.heap.size w3 b F R := ⟨HNW.out.1.fr0 hfr3, fun g hg => ⟨(HNW.out.2 g hg).1, Nat.lt_of_lt_of_le (HNW.out.2 g hg).2 hfr3.size⟩⟩
          have hown3 := own_fr HOWN.out hfr3 (fun _ _ => by simp)
          have hf3 : Fr [] w w3 := hfr1.call hfr3
          have HNW3 := hide hnw3
          have HOWN3 := hide hown3
          clear hnw3 hown3 hfr3 HNX hp hd c4 c5 HNW HOWN hfr1
          generalize hr0 : res.getD ops.length 0 = r
          have hT : ∀ k, n = k + 1 → traceF res k (S.complete r).1 (ops ++ [(p, d)]) = T := fun k hk => by
            subst hk
            rw [← HTR.out, traceF, Seq.rouse_of HN2.out, HNXH.out, hr0]
            simp
          have HT := hide hT
          have cmu := Seq.complete_mu HS.out.ok r H13.out
          have hsc := sim_complete HS.out (by rw [HORD.out]; exact HND.out) r
          have HSC := hide hsc.1
          have hco : (S.complete r).1.ord = ord := by rw [Seq.complete_ord]; exact HORD.out
          have HCO := hide hco
          have HCMU := hide cmu
          clear hT hsc hco cmu
          by_cases hl : ops.length < res.length
          case' pos =>
            have hget : (res.map (Value.int .i64))[ops.length]? = some (.int .i64 r) := by
              rw [← hr0]; simp [hl, List.getD_eq_getElem?_getD]
            obtain ⟨ob, oo, rfl, hc⟩ := (HR2.out.fr0 hf3).at_ hget
            have hob := World.block_lt_of_cell? w3 _ hc
            simp only at hob
            have hobw : ∀ ob' oo' : Nat, (⟨ob, oo, none⟩ : Addr) = ⟨ob', oo', none⟩ → ob' < w.heap.size := fun ob' oo' e => by
              cases e
              obtain ⟨ob2, oo2, e2, hc2⟩ := HR2.out.at_ hget
              cases e2
              exact World.block_lt_of_cell? w _ hc2
            have HOB := hide (hobw ob oo rfl)
            have HC := hide hc
            clear hget hr0 hobw hc
          case' neg =>
            have hrz : r = 0 := by
              rw [← hr0, List.getD_eq_getElem?_getD, List.getElem?_eq_none (by omega)]; rfl
            subst hrz
            clear hr0
          all_goals
            go_wp2_with (first
              | (at_builtin
                 refine wpList_append_row _ rfl (.tmp 39) (.tmp 41) _ rfl w.heap.size 30 i0 (.agg #[.int .i64 0, .int .i64 0]) 2 16 Try.underlying31 HI.out.1 HI.out.2.1 HI.out.2.2.1 HI.out.2.2.2 rfl (by omega) (.slice A7 ops.length cp7) ops.length (opCells ops) rfl
                   (own_fr HOWN3.out (((Fr.refl [] _).alloc _).alloc _) (fun _ _ => by simp)) (some ⟨w3.heap.size + 1, 0, none⟩) 1 1 [nv p, nv d] rfl rfl (row_lit _ _ _ (by simp)) (one2 p d) (by simp only [maxLen]; omega) (by omega) (by have := hf3.size; simp; omega) ?_
                 intro v1 w4 hown4 hg4 hat4
                 have hfr4 : Fr (Value.ownBlock (.slice A7 ops.length cp7)).toList w3 w4 := (((Fr.refl _ _).alloc _).alloc _).grown hg4 (fun g e => .inl (by rw [e]; simp))
                 try (have hc4 := hfr4.cell HC.out (fun hm => by have h1 := (own_block HOWN3.out (g := ob) (by simpa using hm)).1; have h2 := HOB.out; omega))))
            have hd4 : ∀ g, g ∈ F → g ∉ (Value.ownBlock (.slice A7 ops.length cp7)).toList := fun g hg hm => HAP.out g (by simpa using hm) hg
            have hnw4 : RefNew w.heap.size w4 b F R := ⟨HNW3.out.1.fr hfr4 hd4, fun g hg => ⟨(HNW3.out.2 g hg).1, Nat.lt_of_lt_of_le (HNW3.out.2 g hg).2 hfr4.size⟩⟩
            have hf4 : Fr [] w w4 := hf3.step hfr4 (fun g hg => .inr (own_block HOWN3.out (g := g) (by simpa using hg)).1)
            have hap4 : ∀ g, v1.ownBlock = some g → g ∉ F := fun g hg hm => by
              rcases hat4 with e | e
              · exact HAP.out g (e.symm.trans hg) hm
              · rw [e] at hg
                injection hg with hg
                have := (HNW3.out.2 g hm).2
                simp at hg
                omega
            refine (rcomplete_any _ hnw4.1 HRO.out HRG.out).mono ?_
            intro e w5 hret
            obtain ⟨rfl, F', hnw5, hfr5, hF5⟩ := hnw4.ret hf4.size hret
            have hown5 := own_fr hown4 hfr5 hap4
            have hap5 : ∀ g, v1.ownBlock = some g → g ∉ F' := fun g hg hm => by
              rcases hF5 g hm with h | h
              · exact hap4 g hg h
              · have := (own_block hown4 hg).2.1
                omega
            have hf5 : Fr [] w w5 := hf4.step hfr5 (fun g hg => .inr (hnw4.2 g hg).1)
            have HX := hide (And.intro hnw5 (And.intro hown5 (And.intro hap5 hf5)))
            clear hret hnw5 hown5 hap5 hf5 hfr5 hF5 hap4 hf4 hnw4 hd4 hfr4 hown4 hg4 hat4
            go_wp2
            first | go_roundg (S.complete r).1.mu | go_roundg (S.complete 0).1.mu
            case measure => rw [HMM.out]; exact HCMU.out
            case rel =>
              obtain ⟨x1, x2, x3, x4⟩ := HX.out
              have hcm := HCMU.out
              refine ⟨_, _, F', ops ++ [(p, d)], n - 1, HSC.out, HCO.out, x1, ?_, x3, by rw [List.length_append]; go_num, x4, by omega, by rw [List.length_append]; simp; omega, HT.out (n - 1) (by omega), rfl⟩
              rw [opCells_snoc, List.length_append]
              exact x2
end Go.Proofs.Ytgbkgiglagfciaa
