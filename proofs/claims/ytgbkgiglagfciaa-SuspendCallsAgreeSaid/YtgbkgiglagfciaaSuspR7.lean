/- Walks over the reference of layer 30: New. -/
import Derived.Test.YtgbkgiglagfciaaSuspR6
namespace Go.Proofs.Ytgbkgiglagfciaa
open Go.RowKit

def plTo (ord : List Nat) : Nat → List (Nat × Nat)
  | 0 => phaseL 1 ord false
  | k + 1 => plTo ord k ++ phaseL (k + 2) ord true
theorem phaseL_length (p : Nat) (ord : List Nat) (r : Bool) : (phaseL p ord r).length = ord.length := by simp [phaseL]
theorem plTo_length (ord : List Nat) : ∀ k, (plTo ord k).length = (k + 1) * ord.length
  | 0 => by simp [plTo, phaseL_length]
  | k + 1 => by
    rw [plTo, List.length_append, plTo_length ord k, phaseL_length, Nat.add_mul (k + 1)]
    omega
def NewRRel (w : World) (b : Nat) (vo : Value) (ord : List Nat) (m : Nat) (v : Value) (wr : World) : Prop :=
  ∃ (k : Nat) (A : Option Addr) (cp : Nat), k ≤ 3 ∧ v = .int .i64 ((k + 2 : Nat) : Int) ∧ Blk wr b 74 #[vo, .slice A (plTo ord k).length cp, .slice none 0 0, .bool true, .bool false, .bool false, .int .i64 0] ∧
    wr.ownsRow (b + 1) 30 2 (.slice A (plTo ord k).length cp) (plTo ord k).length (opCells (plTo ord k)) ∧ wr.ownsRow w.heap.size 3 1 vo ord.length (ord.map nv) ∧ Fr [] w wr ∧ m = 3 - k

def NewRRet (w : World) (l : List Int) (r : Ending) (w' : World) : Prop :=
  (okB l = false ∧ r = .returned (.tuple #[.pointer none, .int .i64 1]) ∧ Fr [] w w') ∨
  (okB l = true ∧ ∃ b F, r = .returned (.tuple #[.pointer (some ⟨b, 0, none⟩), .int .i64 0]) ∧ (∀ g, g ∈ F → w.heap.size ≤ g) ∧ RefAt w' b F (rseq0 (l.map Int.toNat)) ∧ Fr [] w w')

theorem one_ops (l : List (Nat × Nat)) : ∀ u ∈ opCells l, u.oneCell' = true := by
  intro u hu
  obtain ⟨o, _, ho⟩ := List.mem_flatMap.1 hu
  exact one2 o.1 o.2 u ho
theorem newR_keep {w4 w5 : World} {b n base : Nat} {v : Value} {xs : List Value} {cs : Array Value} (hb : Blk w4 b 74 cs) (h : w4.ownsRow base 30 2 v n xs) (hg : w4.grownBy w5 v.ownBlock) :
    Blk w5 b 74 cs ∧ Fr v.ownBlock.toList w4 w5 := by
  have hf : Fr v.ownBlock.toList w4 w5 := (Fr.refl _ _).grown hg (fun g e => .inl (by rw [e]; simp))
  refine ⟨hb.fr hf (fun hm => ?_), hf⟩
  obtain ⟨_, _, cs, hbb⟩ := own_block h (g := b) (by simpa using hm)
  exact Blk.ne_ hbb hb (by decide) rfl

set_option maxHeartbeats 4000000 in
set_option maxRecDepth 100000 in
theorem rnew_any (A : Option Addr) (cp : Nat) (l : List Int) (w : World) (hr : Row w A (l.map (Value.int .i64))) (hn : l.length ≤ 4096) :
    Calls Try.prog 19 #[.slice A l.length cp] w (NewRRet w l) := by
  obtain ⟨i0, hi0, hz0, hz1, hz2⟩ := info_parts op_info
  have HI := hide (And.intro hi0 (And.intro hz0 (And.intro hz1 hz2)))
  obtain ⟨j0, hj0, hy0, hy1, hy2⟩ := info_parts int_info
  have HJ := hide (And.intro hj0 (And.intro hy0 (And.intro hy1 hy2)))
  have HR := hide hr
  clear hr hi0 hz0 hz1 hz2 hj0 hy0 hy1 hy2
  by_cases h64 : 64 < l.length
  · have hb : decide ((64 : Int) < (l.length : Int)) = true := by simp; omega
    go_enter Try.func19, Try.ntmps19
    go_wp2_with fail
    go_ret2
    refine .inl ⟨?_, rfl, Fr.refl _ _⟩
    unfold okB
    simp
    intro h
    omega
  · have hb : decide ((64 : Int) < (l.length : Int)) = false := by simp; omega
    go_enter Try.func19, Try.ntmps19
    go_wp2_with fail
    refine (perm_any A cp l w HR.out hn).mono ?_
    rintro e w1 ⟨bb, rfl, hbb, hfr1⟩
    cases bb
    · have hok : okB l = false := by
        have : ¬ Good l := fun h => by simpa using hbb.2 h
        rw [← Bool.not_eq_true, okB_iff]
        exact fun h => this h.2
      have HOK := hide hok
      clear hok hbb
      go_wp2_with fail
      go_ret2
      exact .inl ⟨HOK.out, rfl, hfr1⟩
    · have hgood : Good l := hbb.1 rfl
      have hok : okB l = true := okB_iff.2 ⟨by omega, hgood⟩
      have hnv : (l.map Int.toNat).map nv = l.map (Value.int .i64) := map_nv_toNat fun d hd => by
        obtain ⟨i, hi⟩ := List.mem_iff_getElem?.1 hd
        exact (hgood i d (List.getElem?_eq_some_iff.1 hi).1 hi).1
      have hlo : (l.map Int.toNat).length = l.length := by simp
      have hrow : Row w1 A ((l.map Int.toNat).map nv) := by rw [hnv]; exact HR.out.fr0 hfr1
      have hroww : Row w A ((l.map Int.toNat).map nv) := by rw [hnv]; exact HR.out
      have HOK := hide hok
      have HROW := hide hrow
      have HROWW := hide hroww
      clear hok hbb hgood hnv hrow HR hroww
      generalize hoe : l.map Int.toNat = ord at hlo HROW HROWW
      have HOE := hide hoe
      rw [← hlo]
      have HLO := hide hlo
      have hol : ord.length ≤ 64 := by omega
      clear hoe hb hn h64 hlo
      go_upto_region 4 with (first
        | (at_builtin
           refine wpList_append_row _ rfl (.tmp 14) (.tmp 15) _ rfl w1.heap.size 3 j0 (.int .i64 0) 1 8 Try.underlying22 HJ.out.1 HJ.out.2.1 HJ.out.2.2.1 HJ.out.2.2.2 rfl (by omega) (.slice (some ⟨w1.heap.size, 0, none⟩) 0 0) 0 [] rfl
             (own_new w1 (cs := #[]) (Nat.le_refl _) (by simp) (Nat.le_refl _) (by simp [maxLen])) A ord.length cp (ord.map nv) rfl (by simp) (HROW.out.fr0 ((Fr.refl _ _).alloc _)) (by intro u hu; obtain ⟨_, _, rfl⟩ := List.mem_map.1 hu; rfl) (by simp only [maxLen]; omega) (by omega) (by simp) ?_
           intro v1 w2 hown2 hg2 hat2; obtain ⟨A2, cp2, rfl, -, -, -⟩ := own_slice hown2))
      have hown3 : w2.ownsRow w.heap.size 3 1 (.slice A2 ord.length cp2) ord.length (ord.map nv) := by
        have h := own_base hown2 hfr1.size
        simpa using h
      have hf12 : Fr [] w1 w2 := ((Fr.refl _ _).alloc _).grown hg2 (fun g e => .inr (by simp [Value.ownBlock] at e; omega))
      have hf2 : Fr [] w w2 := hfr1.call hf12
      have hb3 := Blk.new w2 74 #[.slice A2 ord.length cp2, .slice none 0 0, .slice none 0 0, .bool true, .bool false, .bool false, .int .i64 0]
      have hown4 := own_fr hown3 ((Fr.refl [] w2).alloc (.cells #[.slice A2 ord.length cp2, .slice none 0 0, .slice none 0 0, .bool true, .bool false, .bool false, .int .i64 0] 74)) (by simp)
      have hf3 := hf2.alloc (.cells #[.slice A2 ord.length cp2, .slice none 0 0, .slice none 0 0, .bool true, .bool false, .bool false, .int .i64 0] 74)
      have hrow3 := (HROW.out.fr0 hf12).fr0 ((Fr.refl [] w2).alloc (.cells #[.slice A2 ord.length cp2, .slice none 0 0, .slice none 0 0, .bool true, .bool false, .bool false, .int .i64 0] 74))
      have hsz3 : (w2.alloc (.cells #[.slice A2 ord.length cp2, .slice none 0 0, .slice none 0 0, .bool true, .bool false, .bool false, .int .i64 0] 74)).heap.size = w2.heap.size + 1 := by simp
      have hbw := hf2.size
      generalize w2.alloc (.cells #[.slice A2 ord.length cp2, .slice none 0 0, .slice none 0 0, .bool true, .bool false, .bool false, .int .i64 0] 74) = w3 at hb3 hown4 hf3 hsz3 hrow3 ⊢
      generalize w2.heap.size = b at hb3 hsz3 hbw ⊢
      have HRO := hide hrow3
      have HB3 := hide hb3
      have HOWN4 := hide hown4
      clear hb3 hown4 hrow3 hown3 hf12 hf2 hown2 hg2 hat2 HROW hfr1
      go_wp2_with fail
      refine (phase_any A cp 1 ord false w3 HRO.out hol).mono ?_
      rintro e w4 ⟨v4, rfl, hown5, hfr5⟩
      obtain ⟨A5, cp5, rfl, -, -, -⟩ := own_slice hown5
      have hb4 := HB3.out.fr hfr5 (by simp)
      have hown6 := own_fr HOWN4.out hfr5 (by simp)
      have hf4 := hf3.call hfr5
      have HRO4 := hide (HRO.out.fr0 hfr5)
      have c1 := hb4.cell 1
      have f1 := hb4.frozen 1
      simp at c1
      have hstart : NewRRel w b (.slice A2 ord.length cp2) ord 3 (.int .i64 2) (w4.setCell ⟨b, 1, none⟩ (.slice A5 ord.length cp5)) ∧ Fr [b] w4 (w4.setCell ⟨b, 1, none⟩ (.slice A5 ord.length cp5)) := by
        have hs : Fr [b] w4 (w4.setCell ⟨b, 1, none⟩ (.slice A5 ord.length cp5)) := (Fr.refl _ _).set (.inl (by simp)) _
        refine ⟨⟨0, A5, cp5, by omega, rfl, ?_, ?_, ?_, ?_, rfl⟩, hs⟩
        · rw [plTo_length, Nat.zero_add, Nat.one_mul]
          exact hb4.set_ 1 _
        · rw [plTo_length, Nat.zero_add, Nat.one_mul]
          refine own_fr (own_base hown5 (by omega)) hs (fun g hg hm => ?_)
          have := (own_block hown5 hg).1
          have e : g = b := by simpa using hm
          omega
        · refine own_fr hown6 hs (fun g hg hm => ?_)
          obtain ⟨_, _, cs', h'⟩ := own_block hown6 hg
          have e : g = b := by simpa using hm
          subst e
          exact Blk.ne_ h' hb4 (by decide) rfl
        · exact hf4.set (.inr hbw) _
      have HST := hide hstart
      clear hstart hb4 hown6 hown5 hf4 hf3 hfr5 HRO HB3 HOWN4
      go_wp2
      go_loopg [5] 3 (fun m v wr => NewRRel w b (.slice A2 ord.length cp2) ord m v wr)
      case atStart => exact HST.out.1
      case round =>
        obtain ⟨k, A7, cp7, hk, rfl, hb7, hown7, hown8, hfr7, hm⟩ := hrel
        have HM := hide hm
        have HB7 := hide hb7
        have HOWN7 := hide hown7
        have HOWN8 := hide hown8
        clear hm hb7 hown7 hown8 HST HRO4 c1 f1
        by_cases hk3 : k < 3
        · have hpb : decide (((k + 2 : Nat) : Int) ≤ 4) = true := by simp; omega
          have HRW := hide (HROWW.out.fr0 hfr7)
          have c1 := HB7.out.cell 1
          have f1 := HB7.out.frozen 1
          have hblt := HB7.out.lt
          simp at c1
          obtain ⟨q, hq⟩ : ∃ q, q = k + 2 := ⟨_, rfl⟩
          rw [← hq]
          rw [← hq] at hpb
          have HQ := hide hq
          have hq4 : q ≤ 4 := by omega
          clear hq
          have hpl := plTo_length ord k
          have hplb : (plTo ord k).length ≤ 256 := by
            rw [hpl]
            have : (k + 1) * ord.length ≤ 4 * 64 := Nat.mul_le_mul (by omega) (by omega)
            omega
          clear hpl
          have hstep : plTo ord (k + 1) = plTo ord k ++ phaseL q ord true := by rw [HQ.out]; rfl
          have HSTEP := hide hstep
          clear hstep
          generalize plTo ord k = pl at HB7 HOWN7 c1 hplb HSTEP
          go_wp2
          go_region_law (first | (refine step_append_row _ (by rfl) (.tmp 32) (.tmp 35) 31 (by rfl) (b + 1) 30 i0 (.agg #[.int .i64 0, .int .i64 0]) 2 16 Try.underlying31 HI.out.1 HI.out.2.1 HI.out.2.2.1 HI.out.2.2.2 rfl (by omega) (.slice A7 pl.length cp7) pl.length (opCells pl) (by rfl) (by exact HOWNP.out) A9 ord.length cp9 (opCells (phaseL q ord true)) (by rfl) (by rw [opCells_length, phaseL_length]) (by exact HROW9.out) (one_ops _) (by simp only [maxLen]; omega) (by omega) (by omega) ?_; intro v1 w5 hown5 hg5 hat5; obtain ⟨hb5, hf5⟩ := newR_keep HB9.out HOWNP.out hg5; obtain ⟨A10, cp10, rfl, -, -, -⟩ := own_slice hown5; have d4 := hb5.cell 1; have d5 := hb5.frozen 1; simp at d4) | (go_simp; go_at_call 43; refine (phase_any A cp q ord true _ (by exact HRW.out.fr0 (Fr.refl _ _).drew) hol).mono ?_; rintro e w4 ⟨v4, rfl, hown9, hfr9⟩; obtain ⟨A9, cp9, rfl, -, hrow9, -⟩ := own_slice hown9; have HROW9 := hide hrow9; have hfr9' := ((Fr.refl [] _).drew).call hfr9; have HB9 := hide (HB7.out.fr hfr9' (by simp)); have HOWNP := hide (own_fr HOWN7.out hfr9' (by simp)); have hc9 := HB9.out.cell 1; have hf9 := HB9.out.frozen 1; simp at hc9; have hs9 := HB9.out.lt; clear hown9 hrow9))
          all_goals
            go_wp2
            go_roundg (3 - (k + 1))
            case measure => rw [HM.out]; omega
            case rel =>
              have hs : Fr [b] w5 (w5.setCell ⟨b, 1, none⟩ (.slice A10 (pl.length + ord.length) cp10)) := (Fr.refl _ _).set (.inl (by simp)) _
              have hln : (plTo ord (k + 1)).length = pl.length + ord.length := by rw [HSTEP.out, List.length_append, phaseL_length]
              have hoc : opCells (plTo ord (k + 1)) = opCells pl ++ opCells (phaseL q ord true) := by rw [HSTEP.out]; simp [opCells]
              have hf5' : Fr [] w w5 := (hfr7.call hfr9').step hf5 (fun g hg => .inr (by have := (own_block HOWNP.out (g := g) (by simpa using hg)).1; omega))
              refine ⟨k + 1, A10, cp10, by omega, by rw [HQ.out]; go_num, ?_, ?_, ?_, hf5'.set (.inr hbw) _, rfl⟩
              · rw [hln]
                exact hb5.set_ 1 _
              · rw [hln, hoc]
                refine own_fr hown5 hs (fun g hg hm => ?_)
                have := (own_block hown5 hg).1
                have e : g = b := by simpa using hm
                omega
              · have ho9 := own_fr HOWN8.out hfr9' (by simp)
                have ho5 := own_fr ho9 hf5 (fun g hg hm => by obtain ⟨_, _, c1, q1⟩ := own_block ho9 hg; obtain ⟨_, _, c2, q2⟩ := own_block HOWNP.out (g := g) (by simpa using hm); exact Blk.ne_ q1 q2 (by decide) rfl)
                refine own_fr ho5 hs (fun g hg hm => ?_)
                obtain ⟨_, _, cs', h'⟩ := own_block ho5 hg
                have e : g = b := by simpa using hm
                subst e
                exact Blk.ne_ h' hb5 (by decide) rfl
        · have hpb : decide (((k + 2 : Nat) : Int) ≤ 4) = false := by simp; omega
          have hk3e : k = 3 := by omega
          subst hk3e
          have href : RefAt wr b (b :: ((Value.ownBlock (.slice A2 ord.length cp2)).toList ++ (Value.ownBlock (.slice A7 (plTo ord 3).length cp7)).toList)) { ord := ord, plan := plTo ord 3, good := [], down := true, sleeps := false, done := false, code := 0 } := by
            refine ⟨.slice A2 ord.length cp2, A7, cp7, .slice none 0 0, HB7.out, by simp, own_cap HOWN7.out, own_base HOWN8.out (Nat.zero_le _), PlanAt.of_own HOWN7.out, own_nil _ _ _ _, ?_, ?_, ?_, ?_⟩
            · intro _ ad _ h
              cases h
            · intro g hg
              simp [hg]
            · intro _ ad e
              subst e
              simp [Value.ownBlock]
            · intro g hg
              cases hg
          have hnewF : ∀ g, g ∈ (b :: ((Value.ownBlock (.slice A2 ord.length cp2)).toList ++ (Value.ownBlock (.slice A7 (plTo ord 3).length cp7)).toList)) → w.heap.size ≤ g := by
            intro g hg
            rcases List.mem_cons.1 hg with e | hg
            · omega
            · rcases List.mem_append.1 hg with hg | hg
              · exact (own_block HOWN8.out (g := g) (by simpa using hg)).1
              · have := (own_block HOWN7.out (g := g) (by simpa using hg)).1
                omega
          generalize (b :: ((Value.ownBlock (.slice A2 ord.length cp2)).toList ++ (Value.ownBlock (.slice A7 (plTo ord 3).length cp7)).toList)) = F at href hnewF
          have HREF := hide href
          have HNF := hide hnewF
          clear href hnewF
          go_wp2_with fail
          refine (settle_any HREF.out).mono ?_
          rintro e w5 ⟨rfl, hat, hfr8⟩
          have hf8 : Fr [] w w5 := hfr7.step hfr8 (fun g hg => .inr (by rw [List.mem_singleton.1 hg]; exact hbw))
          have HAT := hide hat
          clear hat
          go_wp2
          go_ret2
          refine .inr ⟨HOK.out, b, F, rfl, HNF.out, ?_, hf8⟩
          rw [HOE.out]
          exact HAT.out
end Go.Proofs.Ytgbkgiglagfciaa
